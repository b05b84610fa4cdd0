/- PI 29: the walk's rules over marked forms: a simplification does not go into what a mark holds. Program independent. -/
import Derived.Test.YtdjcnfacjfnakaaGreatPi28
set_option linter.unusedSimpArgs false
set_option linter.unusedVariables false
namespace Go.Pi
structure Tg {α β:Type 1} (a:α) (b:β):Type where
structure Tg0 {α β:Type} (a:α) (b:β):Type where
structure TgP (a b:Prop):Type where
section
variable {F:Nat→Option Fn} {gl:Nat→Option (List T)} {dr:Bool} {d:Option Nat} {r:List Ins} {fr:List PV} {sg:Sg} {ow:Ow} {Q:S→Prop}
def Xp (F:Nat→Option Fn) (gl:Nat→Option (List T)) (c:Co) (s:S) (Q:Ex→S→Prop) (_:Tg0 c Q):Prop:=Wp F gl c s Q
def Xi (F:Nat→Option Fn) (gl:Nat→Option (List T)) (dr:Bool) (is:List Ins) (s:S) (Q:S→Prop) (_:Tg0 is Q):Prop:=WpI F gl dr is s Q
def Xl (F:Nat→Option Fn) (gl:Nat→Option (List T)) (c:Co) (s:S) (Q:Ex→S→Prop) (_:Tg0 c Q):Prop:=WpL F gl c s Q
def xN (k:S→Prop) (Q:Ex→S→Prop) (_:Tg0 k Q):Ex→S→Prop:=onN k Q
def xB (id:Nat) (Q:Ex→S→Prop) (_:Tg0 id Q):Ex→S→Prop:=onB id Q
def xC (v:PV) (a b:Prop) (_:TgP a b):Prop:=onC v a b
def xG (v:PV) (q:Bool) (a b:Prop) (_:TgP a b):Prop:=onG v q a b
def xO {α:Type} (v:Option α) (k:α→Prop) (_:Tg0 () k):Prop:=onO v k
def XcE (F:Nat→Option Fn) (gl:Nat→Option (List T)) (f:Nat) (args:List PV) (sg:Sg) (ow:Ow) (K:PV→Sg→Ow→Prop) (_:Tg0 () K):Prop:=CallE F gl f args sg ow K
def XcP (F:Nat→Option Fn) (gl:Nat→Option (List T)) (f:Nat) (ts:List T) (K:PV→Prop) (_:Tg0 () K):Prop:=CallP F gl f ts K
def xF (v:PV) (K:Nat→List PV→Prop) (_:Tg0 () K):Prop:=fnK v K
def xR (gl:Nat→Option (List T)) (res:List (Nat×Option (Bool×Nat))) (K:PV→Sg→Ow→Prop) (_:Tg0 () K):Ex→S→Prop:=b9B gl res K
theorem c0P {s:S} {Q:Ex→S→Prop}:Xp F gl .skip s Q ⟨⟩↔Q .normal s:=b6E
theorem c0Q {id:Nat} {s:S} {Q:Ex→S→Prop}:Xp F gl (.exit id) s Q ⟨⟩↔Q (.exit id) s:=b6F
theorem c0R {s:S} {Q:Ex→S→Prop}:Xp F gl .ret s Q ⟨⟩↔Q .ret s:=b6G
theorem c0S {is:List Ins} {s:S} {Q:Ex→S→Prop}:Xp F gl (.reg dr is) s Q ⟨⟩↔Xi F gl dr is s (Q .normal) ⟨⟩:=b6H
theorem c0T {a b:Co} {s:S} {Q:Ex→S→Prop}:Xp F gl (.seq a b) s Q ⟨⟩↔Xp F gl a s (xN (fun s'=>Xp F gl b s' Q ⟨⟩) Q ⟨⟩) ⟨⟩:=b6I
theorem c0U {id:Nat} {b:Co} {s:S} {Q:Ex→S→Prop}:Xp F gl (.block id b) s Q ⟨⟩↔Xp F gl b s (xB id Q ⟨⟩) ⟨⟩:=b6J
theorem c0V {c:Opd} {a b:Co} {fr:List PV} {sg:Sg} {ow:Ow} {Q:Ex→S→Prop}:Xp F gl (.cond c a b) ⟨fr,sg,ow⟩ Q ⟨⟩↔xC (c.ev fr) (Xp F gl a ⟨fr,sg,ow⟩ Q ⟨⟩) (Xp F gl b ⟨fr,sg,ow⟩ Q ⟨⟩) ⟨⟩:=b6K
theorem c0W {b:Co} {s:S} {Q:Ex→S→Prop}:Xp F gl (.loop b) s Q ⟨⟩↔Xl F gl b s Q ⟨⟩:=b9I
theorem Xl.step {b:Co} {s:S} {Q:Ex→S→Prop} (h:Xp F gl b s (xN (fun s'=>Xl F gl b s' Q ⟨⟩) Q ⟨⟩) ⟨⟩):Xl F gl b s Q ⟨⟩:=WpL.step h
theorem c0X {k:S→Prop} {Q:Ex→S→Prop} {s:S}:xN k Q ⟨⟩ .normal s↔k s:=g2W
theorem c0Y {k:S→Prop} {Q:Ex→S→Prop} {s:S} {id:Nat}:xN k Q ⟨⟩ (.exit id) s↔Q (.exit id) s:=g2W
theorem c0Z {k:S→Prop} {Q:Ex→S→Prop} {s:S}:xN k Q ⟨⟩ .ret s↔Q .ret s:=g2W
theorem c1A {id:Nat} {Q:Ex→S→Prop} {s:S}:xB id Q ⟨⟩ .normal s↔Q .normal s:=g2W
theorem c1B {id:Nat} {Q:Ex→S→Prop} {s:S}:xB id Q ⟨⟩ (.exit id) s↔Q .normal s:=by
 show onB id Q (.exit id) s↔_
 rw[b6C,if_pos rfl]
theorem c1C {id id':Nat} {Q:Ex→S→Prop} {s:S} (h:(id' == id)=false):xB id Q ⟨⟩ (.exit id') s↔Q (.exit id') s:=by
 show onB id Q (.exit id') s↔_
 rw[b6C,if_neg (by simpa using h)]
theorem c1D {id:Nat} {Q:Ex→S→Prop} {s:S}:xB id Q ⟨⟩ .ret s↔Q .ret s:=g2W
theorem c1E {a b:Prop}:xC (.t (.bool true)) a b ⟨⟩↔a:=g2W
theorem c1F {a b:Prop}:xC (.t (.bool false)) a b ⟨⟩↔b:=g2W
theorem c1G {a b:Prop}:xG (.t (.bool true)) true a b ⟨⟩↔a:=g2W
theorem c1H {a b:Prop}:xG (.t (.bool true)) false a b ⟨⟩↔b:=g2W
theorem c1I {a b:Prop}:xG (.t (.bool false)) true a b ⟨⟩↔b:=g2W
theorem c1J {a b:Prop}:xG (.t (.bool false)) false a b ⟨⟩↔a:=g2W
theorem c1K {q:Bool} {a b:Prop}:xG (.tup []) q a b ⟨⟩↔b:=g2W
theorem c1L {α:Type} {x:α} {k:α→Prop}:xO (some x) k ⟨⟩↔k x:=g2W
theorem c1M {f:Nat} {caps:List PV} {K:Nat→List PV→Prop}:xF (.fn f caps) K ⟨⟩↔K f caps:=g2W
theorem c1N {s:S} {Q:S→Prop}:Xi F gl dr [] s Q ⟨⟩↔Q s:=b6L
theorem c1O {k:Nat} {b:Bool} {o:O}:Xi F gl dr (⟨d,some (k,b),o⟩::r) ⟨fr,sg,ow⟩ Q ⟨⟩↔xG (a0A fr k) b (Xi F gl dr (⟨d,none,o⟩::r) ⟨fr,sg,ow⟩ Q ⟨⟩) (Xi F gl dr r ⟨put fr d und,sg,ow⟩ Q ⟨⟩) ⟨⟩:=c0O
theorem c1P {a:Opd}:Xi F gl dr (⟨d,none,.mov a⟩::r) ⟨fr,sg,ow⟩ Q ⟨⟩↔Xi F gl dr r ⟨put fr d (a.ev fr),sg,ow⟩ Q ⟨⟩:=b6W
theorem c1Q {c a b:Opd}:Xi F gl dr (⟨d,none,.pick c a b⟩::r) ⟨fr,sg,ow⟩ Q ⟨⟩↔xO (pickV (c.ev fr) (a.ev fr) (b.ev fr)) (fun v=>Xi F gl dr r ⟨put fr d v,sg,ow⟩ Q ⟨⟩) ⟨⟩:=b6X
theorem c1R {a:Opd}:Xi F gl dr (⟨d,none,.box a⟩::r) ⟨fr,sg,ow⟩ Q ⟨⟩↔Xi F gl dr r ⟨put fr d (.lp sg.length 0),sg++[(false,cellsP (a.ev fr))],ow⟩ Q ⟨⟩:=b6Y
theorem c1S {zs:List T}:Xi F gl dr (⟨d,none,.alloc zs⟩::r) ⟨fr,sg,ow⟩ Q ⟨⟩↔Xi F gl dr r ⟨put fr d (.lp sg.length 0),sg++[(false,zs.map .t)],ow⟩ Q ⟨⟩:=b6Z
theorem c1T {zs:List T} {ps:List (Nat×Nat×Opd)}:Xi F gl dr (⟨d,none,.build zs ps⟩::r) ⟨fr,sg,ow⟩ Q ⟨⟩↔xO (fillP (zs.map .t) (ps.map fun p=>(p.1,p.2.1,p.2.2.ev fr))) (fun cs=>Xi F gl dr r ⟨put fr d (mkAgg cs),sg,ow⟩ Q ⟨⟩) ⟨⟩:=b7A
theorem c1U {sz len:Nat} {z:List T} {ps:List (Nat×Opd)}:Xi F gl dr (⟨d,none,.bsl sz len z ps⟩::r) ⟨fr,sg,ow⟩ Q ⟨⟩↔xO (b6V sz len z (ps.map fun p=>(p.1 * sz,sz,p.2.ev fr))) (fun v=>Xi F gl dr r ⟨put fr d v,sg,ow⟩ Q ⟨⟩) ⟨⟩:=b7B
theorem c1V {ag:Bool} {n:Nat} {a:Opd}:Xi F gl dr (⟨d,none,.load ag n a⟩::r) ⟨fr,sg,ow⟩ Q ⟨⟩↔xO (loadP gl sg ag n (a.ev fr)) (fun v=>Xi F gl dr r ⟨put fr d v,sg,ow⟩ Q ⟨⟩) ⟨⟩:=b7C
theorem c1W {n:Nat} {a v:Opd}:Xi F gl dr (⟨d,none,.store n a v⟩::r) ⟨fr,sg,ow⟩ Q ⟨⟩↔xO (storeP sg n (v.ev fr) (a.ev fr)) (fun sg'=>Xi F gl dr r ⟨put fr d und,sg',ow⟩ Q ⟨⟩) ⟨⟩:=b7D
theorem c1X {a:Opd}:Xi F gl dr (⟨d,none,.nck a⟩::r) ⟨fr,sg,ow⟩ Q ⟨⟩↔xO (nckV (a.ev fr)) (fun v=>Xi F gl dr r ⟨put fr d v,sg,ow⟩ Q ⟨⟩) ⟨⟩:=b7E
theorem c1Y {op:BinOp} {a b:Opd}:Xi F gl dr (⟨d,none,.bin op a b⟩::r) ⟨fr,sg,ow⟩ Q ⟨⟩↔xO (a0H op (a.ev fr) (b.ev fr)) (fun v=>Xi F gl dr r ⟨put fr d (.t v),sg,ow⟩ Q ⟨⟩) ⟨⟩:=b7F
theorem c1Z {ng ag:Bool} {ks:List Nat} {a b:Opd}:Xi F gl dr (⟨d,none,.eqv ng ag ks a b⟩::r) ⟨fr,sg,ow⟩ Q ⟨⟩↔xO (eqT ag ks (a.ev fr) (b.ev fr)) (fun q=>Xi F gl dr r ⟨put fr d (.t (.bool (ng != q))),sg,ow⟩ Q ⟨⟩) ⟨⟩:=b7G
theorem c2A {ng:Bool} {kd:Nat} {a:Opd}:Xi F gl dr (⟨d,none,.isn ng kd a⟩::r) ⟨fr,sg,ow⟩ Q ⟨⟩↔xO (isNil kd (a.ev fr)) (fun q=>Xi F gl dr r ⟨put fr d (.t (.bool (ng != q))),sg,ow⟩ Q ⟨⟩) ⟨⟩:=b7H
theorem c2B {op:UnOp} {a:Opd}:Xi F gl dr (⟨d,none,.un op a⟩::r) ⟨fr,sg,ow⟩ Q ⟨⟩↔xO (unT op (a.ev fr)) (fun v=>Xi F gl dr r ⟨put fr d (.t v),sg,ow⟩ Q ⟨⟩) ⟨⟩:=b7I
theorem c2C {k:IntKind} {a:Opd}:Xi F gl dr (⟨d,none,.cvi k a⟩::r) ⟨fr,sg,ow⟩ Q ⟨⟩↔xO (cviV k (a.ev fr)) (fun v=>Xi F gl dr r ⟨put fr d v,sg,ow⟩ Q ⟨⟩) ⟨⟩:=b7J
theorem c2D {a:Opd}:Xi F gl dr (⟨d,none,.cvr a⟩::r) ⟨fr,sg,ow⟩ Q ⟨⟩↔xO (cvrV (a.ev fr)) (fun v=>Xi F gl dr r ⟨put fr d v,sg,ow⟩ Q ⟨⟩) ⟨⟩:=b7K
theorem c2E {a:Opd}:Xi F gl dr (⟨d,none,.cvt a⟩::r) ⟨fr,sg,ow⟩ Q ⟨⟩↔xO (cvtV (a.ev fr)) (fun v=>Xi F gl dr r ⟨put fr d v,sg,ow⟩ Q ⟨⟩) ⟨⟩:=b7L
theorem c2F {a:Opd}:Xi F gl dr (⟨d,none,.cvm a⟩::r) ⟨fr,sg,ow⟩ Q ⟨⟩↔xO (cvmV (a.ev fr)) (fun v=>Xi F gl dr r ⟨put fr d v,sg,ow⟩ Q ⟨⟩) ⟨⟩:=b7M
theorem c2G {k:Nat} {a:Opd}:Xi F gl dr (⟨d,none,.ext k a⟩::r) ⟨fr,sg,ow⟩ Q ⟨⟩↔xO (extV k (a.ev fr)) (fun v=>Xi F gl dr r ⟨put fr d v,sg,ow⟩ Q ⟨⟩) ⟨⟩:=b7N
theorem c2H {a:Opd}:Xi F gl dr (⟨d,none,.cvb a⟩::r) ⟨fr,sg,ow⟩ Q ⟨⟩↔xO (b6R dr ow (a.ev fr)) (fun v=>Xi F gl dr r ⟨put fr d v.1,sg,v.2⟩ Q ⟨⟩) ⟨⟩:=b7O
theorem c2I {a:Opd}:Xi F gl dr (⟨d,none,.cvs a⟩::r) ⟨fr,sg,ow⟩ Q ⟨⟩↔xO ((a0L sg 1 (a.ev fr)).bind a0J) (fun x=>Xi F gl dr r ⟨put fr d (.t (.str x)),sg,ow⟩ Q ⟨⟩) ⟨⟩:=b7P
theorem c2J {sz bytes:Nat} {z:List T} {l c:Opd}:Xi F gl dr (⟨d,none,.mks sz bytes z l c⟩::r) ⟨fr,sg,ow⟩ Q ⟨⟩↔xO (b6S dr sg ow sz bytes z (l.ev fr) (c.ev fr)) (fun x=>Xi F gl dr r ⟨put fr d x.1,x.2.1,x.2.2⟩ Q ⟨⟩) ⟨⟩:=b7Q
theorem c2K {sz bytes:Nat} {z:List T} {l c:Opd}:Xi F gl dr (⟨d,none,.mkz sz bytes z l c⟩::r) ⟨fr,sg,ow⟩ Q ⟨⟩↔xO (b7R sz bytes z (l.ev fr) (c.ev fr)) (fun v=>Xi F gl dr r ⟨put fr d v,sg,ow⟩ Q ⟨⟩) ⟨⟩:=b7S
theorem c2L {sz:Nat} {a:Opd} {lo hi mx:Option Opd}:Xi F gl dr (⟨d,none,.slc sz a lo hi mx⟩::r) ⟨fr,sg,ow⟩ Q ⟨⟩↔xO (a0R sz (a.ev fr) (lo.map (Opd.ev fr)) (hi.map (Opd.ev fr)) (mx.map (Opd.ev fr))) (fun v=>Xi F gl dr r ⟨put fr d v,sg,ow⟩ Q ⟨⟩) ⟨⟩:=b7T
theorem c2M {a:Opd} {lo hi:Option Opd}:Xi F gl dr (⟨d,none,.sls a lo hi⟩::r) ⟨fr,sg,ow⟩ Q ⟨⟩↔xO (a0S (a.ev fr) (lo.map (Opd.ev fr)) (hi.map (Opd.ev fr))) (fun v=>Xi F gl dr r ⟨put fr d v,sg,ow⟩ Q ⟨⟩) ⟨⟩:=b7U
theorem c2N {n sz:Nat} {a:Opd} {lo hi:Option Opd}:Xi F gl dr (⟨d,none,.sla n sz a lo hi⟩::r) ⟨fr,sg,ow⟩ Q ⟨⟩↔xO (a0T n sz (a.ev fr) (lo.map (Opd.ev fr)) (hi.map (Opd.ev fr))) (fun v=>Xi F gl dr r ⟨put fr d v,sg,ow⟩ Q ⟨⟩) ⟨⟩:=b7V
theorem c2O {off:Nat} {a:Opd}:Xi F gl dr (⟨d,none,.fad off a⟩::r) ⟨fr,sg,ow⟩ Q ⟨⟩↔xO (fieldA off (a.ev fr)) (fun v=>Xi F gl dr r ⟨put fr d v,sg,ow⟩ Q ⟨⟩) ⟨⟩:=b7W
theorem c2P {ag:Bool} {off n:Nat} {a:Opd}:Xi F gl dr (⟨d,none,.fld ag off n a⟩::r) ⟨fr,sg,ow⟩ Q ⟨⟩↔xO (partV ag n off (a.ev fr)) (fun v=>Xi F gl dr r ⟨put fr d v,sg,ow⟩ Q ⟨⟩) ⟨⟩:=b7X
theorem c2Q {n sz:Nat} {a i:Opd}:Xi F gl dr (⟨d,none,.iaa n sz a i⟩::r) ⟨fr,sg,ow⟩ Q ⟨⟩↔xO (indexA n sz (a.ev fr) (i.ev fr)) (fun v=>Xi F gl dr r ⟨put fr d v,sg,ow⟩ Q ⟨⟩) ⟨⟩:=b7Y
theorem c2R {sz:Nat} {a i:Opd}:Xi F gl dr (⟨d,none,.ias sz a i⟩::r) ⟨fr,sg,ow⟩ Q ⟨⟩↔xO (indexS sz (a.ev fr) (i.ev fr)) (fun v=>Xi F gl dr r ⟨put fr d v,sg,ow⟩ Q ⟨⟩) ⟨⟩:=b7Z
theorem c2S {ag:Bool} {n sz:Nat} {a i:Opd}:Xi F gl dr (⟨d,none,.ixa ag n sz a i⟩::r) ⟨fr,sg,ow⟩ Q ⟨⟩↔xO (indexV ag n sz (a.ev fr) (i.ev fr)) (fun v=>Xi F gl dr r ⟨put fr d v,sg,ow⟩ Q ⟨⟩) ⟨⟩:=b8A
theorem c2T {a i:Opd}:Xi F gl dr (⟨d,none,.ixs a i⟩::r) ⟨fr,sg,ow⟩ Q ⟨⟩↔xO (indexStr (a.ev fr) (i.ev fr)) (fun v=>Xi F gl dr r ⟨put fr d v,sg,ow⟩ Q ⟨⟩) ⟨⟩:=b8B
theorem c2U {st:Bool} {a:Opd}:Xi F gl dr (⟨d,none,.len st a⟩::r) ⟨fr,sg,ow⟩ Q ⟨⟩↔xO (lenP st (a.ev fr)) (fun n=>Xi F gl dr r ⟨put fr d (.t (.int .i64 (n:Int))),sg,ow⟩ Q ⟨⟩) ⟨⟩:=b8C
theorem c2V {sz bytes:Nat} {a b:Opd}:Xi F gl dr (⟨d,none,.app sz bytes a b⟩::r) ⟨fr,sg,ow⟩ Q ⟨⟩↔xO (a0U dr sg ow sz bytes (a.ev fr) (b.ev fr)) (fun x=>Xi F gl dr r ⟨put fr d x.1,sg,x.2⟩ Q ⟨⟩) ⟨⟩:=b8D
theorem c2W :Xi F gl dr (⟨d,none,.mkm⟩::r) ⟨fr,sg,ow⟩ Q ⟨⟩↔Xi F gl dr r ⟨put fr d (.mp sg.length),sg++[(true,[])],ow⟩ Q ⟨⟩:=b8E
theorem c2X {ck:Bool} {kd:Nat} {z:T} {a i:Opd}:Xi F gl dr (⟨d,none,.mlk ck kd z a i⟩::r) ⟨fr,sg,ow⟩ Q ⟨⟩↔xO (a1C sg ck kd z (a.ev fr) (i.ev fr)) (fun v=>Xi F gl dr r ⟨put fr d v,sg,ow⟩ Q ⟨⟩) ⟨⟩:=b8F
theorem c2Y {kd:Nat} {a k v:Opd}:Xi F gl dr (⟨d,none,.mup kd a k v⟩::r) ⟨fr,sg,ow⟩ Q ⟨⟩↔xO (a1D sg kd (a.ev fr) (k.ev fr) (v.ev fr)) (fun sg'=>Xi F gl dr r ⟨put fr d und,sg',ow⟩ Q ⟨⟩) ⟨⟩:=b8G
theorem c2Z {kd:Nat} {a k:Opd}:Xi F gl dr (⟨d,none,.mdl kd a k⟩::r) ⟨fr,sg,ow⟩ Q ⟨⟩↔xO (a1E sg kd (a.ev fr) (k.ev fr)) (fun sg'=>Xi F gl dr r ⟨put fr d und,sg',ow⟩ Q ⟨⟩) ⟨⟩:=b8H
theorem c3A {mx:Bool} {a b:Opd}:Xi F gl dr (⟨d,none,.mxn mx a b⟩::r) ⟨fr,sg,ow⟩ Q ⟨⟩↔xO (mxT mx (a.ev fr) (b.ev fr)) (fun v=>Xi F gl dr r ⟨put fr d (.t v),sg,ow⟩ Q ⟨⟩) ⟨⟩:=b8I
theorem c3B {sz bytes:Nat} {a b:Opd}:Xi F gl dr (⟨d,none,.apb sz bytes a b⟩::r) ⟨fr,sg,ow⟩ Q ⟨⟩↔xO (a0V sg sz bytes (a.ev fr) (b.ev fr)) (fun x=>Xi F gl dr r ⟨put fr d x.1,x.2,ow⟩ Q ⟨⟩) ⟨⟩:=b8J
theorem c3C {ag:Bool} {n:Nat} {a:Opd} {k:Nat}:Xi F gl dr (⟨d,none,.ldk ag n a k⟩::r) ⟨fr,sg,ow⟩ Q ⟨⟩↔xO (a1I gl sg ag n (a0A fr k) (a.ev fr)) (fun v=>Xi F gl dr r ⟨put fr d v,sg,ow⟩ Q ⟨⟩) ⟨⟩:=b8K
theorem c3D {ag:Bool} {n:Nat} {a:Opd}:Xi F gl dr (⟨d,none,.ldt ag n a⟩::r) ⟨fr,sg,ow⟩ Q ⟨⟩↔xO (loadP gl [] ag n (a.ev fr)) (fun v=>Xi F gl dr r ⟨put fr d v,sg,ow⟩ Q ⟨⟩) ⟨⟩:=b8L
theorem c3E {n:Nat} {a v:Opd} {ks:List Nat}:Xi F gl dr (⟨d,none,.stok n a v ks⟩::r) ⟨fr,sg,ow⟩ Q ⟨⟩↔xO (storeP sg n (v.ev fr) (a.ev fr)) (fun sg'=>xO (b6T fr ks sg sg') (fun _=>Xi F gl dr r ⟨put fr d und,sg',ow⟩ Q ⟨⟩) ⟨⟩) ⟨⟩:=b8M
theorem c3F {ty:Nat}:Xi F gl dr (⟨d,none,.alb ty⟩::r) ⟨fr,sg,ow⟩ Q ⟨⟩↔Xi F gl dr r ⟨put fr d (.lp sg.length 0),sg++[(false,[.bp sg.length ty,.t (.sl true [])])],ow⟩ Q ⟨⟩:=b8N
theorem c3G {ty:Nat} {a:Opd}:Xi F gl dr (⟨d,none,.cck ty a⟩::r) ⟨fr,sg,ow⟩ Q ⟨⟩↔xO (a0W sg ty (a.ev fr)) (fun v=>Xi F gl dr r ⟨put fr d v,sg,ow⟩ Q ⟨⟩) ⟨⟩:=b8O
theorem c3H {ty:Nat} {a b:Opd}:Xi F gl dr (⟨d,none,.apw ty a b⟩::r) ⟨fr,sg,ow⟩ Q ⟨⟩↔xO (a0X ow ty (a.ev fr) (b.ev fr)) (fun x=>Xi F gl dr r ⟨put fr d x.1,sg,x.2⟩ Q ⟨⟩) ⟨⟩:=b8P
theorem c3I {ty:Nat} {a:Opd}:Xi F gl dr (⟨d,none,.bst ty a⟩::r) ⟨fr,sg,ow⟩ Q ⟨⟩↔xO (a0Y sg ow ty (a.ev fr)) (fun v=>Xi F gl dr r ⟨put fr d v,sg,ow⟩ Q ⟨⟩) ⟨⟩:=b8Q
theorem c3J {f:Nat} {caps:List Opd}:Xi F gl dr (⟨d,none,.mkf f caps⟩::r) ⟨fr,sg,ow⟩ Q ⟨⟩↔Xi F gl dr r ⟨put fr d (.fn f (caps.map (Opd.ev fr))),sg,ow⟩ Q ⟨⟩:=b8R
theorem c3K {k:Nat} {as:List Opd}:Xi F gl dr (⟨d,none,.xt k as⟩::r) ⟨fr,sg,ow⟩ Q ⟨⟩↔xO (((as.map (Opd.ev fr)).mapM close).bind (a0P gl k)) (fun v=>Xi F gl dr r ⟨put fr d v,sg,ow⟩ Q ⟨⟩) ⟨⟩:=b8S
theorem c3L {f:Nat} {as:List Opd}:Xi F gl dr (⟨d,none,.call f as⟩::r) ⟨fr,sg,ow⟩ Q ⟨⟩↔xO ((as.map (Opd.ev fr)).mapM close) (fun ts=>XcP F gl f ts (fun v=>Xi F gl dr r ⟨put fr d (aft dr ow v).1,sg,(aft dr ow v).2⟩ Q ⟨⟩) ⟨⟩) ⟨⟩:=b8U
theorem c3M {f:Nat} {as:List Opd}:Xi F gl dr (⟨d,none,.cale f as⟩::r) ⟨fr,sg,ow⟩ Q ⟨⟩↔XcE F gl f (as.map (Opd.ev fr)) sg ow (fun v sg' ow'=>Xi F gl dr r ⟨put fr d v,sg',ow'⟩ Q ⟨⟩) ⟨⟩:=b8X
theorem c3N {f:Nat} {as:List Opd} {ks:List Nat}:Xi F gl dr (⟨d,none,.calk f as ks⟩::r) ⟨fr,sg,ow⟩ Q ⟨⟩↔XcE F gl f (as.map (Opd.ev fr)) sg ow (fun v sg' ow'=>xO (b6T fr ks sg sg') (fun _=>Xi F gl dr r ⟨put fr d v,sg',ow'⟩ Q ⟨⟩) ⟨⟩) ⟨⟩:=b8Y
theorem c3O {f:Nat} {as:List Opd} {ks:List Nat}:Xi F gl dr (⟨d,none,.calz f as ks⟩::r) ⟨fr,sg,ow⟩ Q ⟨⟩↔xO (a1K sg (as.map (Opd.ev fr))) (fun z=>xO (z.1.mapM close) (fun ts=>XcP F gl f ts (fun v=>xO (b6T fr ks sg z.2) (fun _=>Xi F gl dr r ⟨put fr d (aft dr ow v).1,z.2,(aft dr ow v).2⟩ Q ⟨⟩) ⟨⟩) ⟨⟩) ⟨⟩) ⟨⟩:=b8V
theorem c3P {zs:List T} {ps:List (Nat×Nat×Opd)}:Xi F gl dr (⟨d,none,.bldz zs ps⟩::r) ⟨fr,sg,ow⟩ Q ⟨⟩↔xO (a1K sg (ps.map fun p=>p.2.2.ev fr)) (fun z=>xO (fillP (zs.map .t) ((ps.zip z.1).map fun p=>(p.1.1,p.1.2.1,p.2))) (fun cs=>Xi F gl dr r ⟨put fr d (mkAgg cs),z.2,ow⟩ Q ⟨⟩) ⟨⟩) ⟨⟩:=b8W
theorem c3Q {g:Opd} {as:List Opd}:Xi F gl dr (⟨d,none,.calv g as⟩::r) ⟨fr,sg,ow⟩ Q ⟨⟩↔xF (g.ev fr) (fun f caps=>XcE F gl f (as.map (Opd.ev fr)++caps) sg ow (fun v sg' ow'=>Xi F gl dr r ⟨put fr d v,sg',ow'⟩ Q ⟨⟩) ⟨⟩) ⟨⟩:=b9A
theorem c3R {n:Nat}:0≤(n:Int):=Int.natCast_nonneg n
theorem c3S:((0:Nat):Int)=0:=rfl
theorem c3T {n:Nat}:¬((n:Int) < 0):=by omega
theorem c3U {q:Bool} {a b:Prop} (h1:q=true→a) (h2:q=false→b):xC (.t (.bool q)) a b ⟨⟩:=by
 cases q
 ·exact h2 rfl
 ·exact h1 rfl
theorem c3V {q:Bool} {a b:Prop} (h1:q=true→b) (h2:q=false→a):xC (.t (.bool (!q))) a b ⟨⟩:=by
 cases q
 ·exact h2 rfl
 ·exact h1 rfl
theorem c3W {p:Prop} [Decidable p] {a b:Prop} (h1:p→a) (h2:¬p→b):xC (.t (.bool (decide p))) a b ⟨⟩ :=
 c3U (fun h=>h1 (g5N h)) (fun h=>h2 (g5M h))
theorem c3X {p:Prop} [Decidable p] {a b:Prop} (h1:p→b) (h2:¬p→a):xC (.t (.bool (!decide p))) a b ⟨⟩ :=
 c3V (fun h=>h1 (g5N h)) (fun h=>h2 (g5M h))
theorem c3Y {q b:Bool} {A B:Prop} (h1:q=true→xG (.t (.bool true)) b A B ⟨⟩) (h2:q=false→xG (.t (.bool false)) b A B ⟨⟩):xG (.t (.bool q)) b A B ⟨⟩:=by
 cases q
 ·exact h2 rfl
 ·exact h1 rfl
theorem c3Z {q b:Bool} {A B:Prop} (h1:q=true→xG (.t (.bool false)) b A B ⟨⟩) (h2:q=false→xG (.t (.bool true)) b A B ⟨⟩):xG (.t (.bool (!q))) b A B ⟨⟩:=by
 cases q
 ·exact h2 rfl
 ·exact h1 rfl
theorem c4A {p:Prop} [Decidable p] {b:Bool} {A B:Prop} (h1:p→xG (.t (.bool true)) b A B ⟨⟩) (h2:¬p→xG (.t (.bool false)) b A B ⟨⟩):xG (.t (.bool (decide p))) b A B ⟨⟩ :=
 c3Y (fun h=>h1 (g5N h)) (fun h=>h2 (g5M h))
theorem c4B {p:Prop} [Decidable p] {b:Bool} {A B:Prop} (h1:p→xG (.t (.bool false)) b A B ⟨⟩) (h2:¬p→xG (.t (.bool true)) b A B ⟨⟩):xG (.t (.bool (!decide p))) b A B ⟨⟩ :=
 c3Z (fun h=>h1 (g5N h)) (fun h=>h2 (g5M h))
def Ret (F:Nat→Option Fn) (gl:Nat→Option (List T)) (f:Nat) (ts:List T) (v:PV):Prop:=CallP F gl f ts fun v2=>v2=v
def RetE (F:Nat→Option Fn) (gl:Nat→Option (List T)) (f:Nat) (args:List PV) (sg:Sg) (ow:Ow) (v:PV) (sg':Sg) (ow':Ow):Prop:=CallE F gl f args sg ow fun v2 sg2 ow2=>v2=v∧sg2=sg'∧ow2=ow'
theorem Ret.iff {f:Nat} {ts:List T} {v:PV} {K:PV→Prop} (h:Ret F gl f ts v):XcP F gl f ts K ⟨⟩↔K v:=CallP.iff h
theorem RetE.iff {f:Nat} {args:List PV} {v:PV} {sg':Sg} {ow':Ow} {K:PV→Sg→Ow→Prop} (h:RetE F gl f args sg ow v sg' ow'):XcE F gl f args sg ow K ⟨⟩↔K v sg' ow':=CallE.iff h
theorem Ret.of {f:Nat} {fn:Fn} {ts:List T} {v:PV} (hf:F f=some fn) (hl:ts.length=fn.np) (h:Xp F gl fn.body ⟨ts.map .t,[],[]⟩ (xR gl fn.res (fun x sg ow=>xO (retV sg ow x) (fun v2=>v2=v) ⟨⟩) ⟨⟩) ⟨⟩):Ret F gl f ts v:=b9D hf hl h
theorem RetE.of {f:Nat} {fn:Fn} {args:List PV} {v:PV} {sg':Sg} {ow':Ow} (hf:F f=some fn) (hl:args.length=fn.np) (h:Xp F gl fn.body ⟨args,sg,ow⟩ (xR gl fn.res (fun v2 sg2 ow2=>v2=v∧sg2=sg'∧ow2=ow') ⟨⟩) ⟨⟩):RetE F gl f args sg ow v sg' ow':=b9C hf hl h
theorem XcP.of {f:Nat} {fn:Fn} {ts:List T} {K:PV→Prop} (hf:F f=some fn) (hl:ts.length=fn.np) (h:Xp F gl fn.body ⟨ts.map .t,[],[]⟩ (xR gl fn.res (fun x sg ow=>xO (retV sg ow x) K ⟨⟩) ⟨⟩) ⟨⟩):CallP F gl f ts K:=b9D hf hl h
theorem XcE.of {f:Nat} {fn:Fn} {args:List PV} {K:PV→Sg→Ow→Prop} (hf:F f=some fn) (hl:args.length=fn.np) (h:Xp F gl fn.body ⟨args,sg,ow⟩ (xR gl fn.res K ⟨⟩) ⟨⟩):CallE F gl f args sg ow K:=b9C hf hl h
theorem c4C {k:Nat} {K:PV→Sg→Ow→Prop}:xR gl [(k,none)] K ⟨⟩ .ret ⟨fr,sg,ow⟩↔K (a0A fr k) sg ow:=g2W
theorem c4D {k:Nat} {K:PV→Sg→Ow→Prop}:xR gl [(k,none)] K ⟨⟩ .normal ⟨fr,sg,ow⟩↔K (a0A fr k) sg ow:=g2W
theorem c4E {K:PV→Sg→Ow→Prop}:xR gl [] K ⟨⟩ .ret ⟨fr,sg,ow⟩↔K (.tup []) sg ow:=g2W
theorem c4F {K:PV→Sg→Ow→Prop}:xR gl [] K ⟨⟩ .normal ⟨fr,sg,ow⟩↔K (.tup []) sg ow:=g2W
theorem c4G {k n:Nat} {ag:Bool} (hn:n < 1000) {K:PV→Sg→Ow→Prop}:xR gl [(k,some (ag,n))] K ⟨⟩ .ret ⟨fr,sg,ow⟩↔xO (loadP gl sg ag n (a0A fr k)) (fun v=>K v sg ow) ⟨⟩:=b9E hn
theorem c4H {k:Nat} {K:PV→Sg→Ow→Prop}:xR gl [(k,some (true,1000))] K ⟨⟩ .ret ⟨fr,sg,ow⟩↔K (clo (a0A fr k)) sg ow:=g2W
theorem c4I {k:Nat} {K:PV→Sg→Ow→Prop}:xR gl [(k,some (true,1000))] K ⟨⟩ .normal ⟨fr,sg,ow⟩↔K (clo (a0A fr k)) sg ow:=g2W
theorem c4J {k n:Nat} {ag:Bool} (hn:1000 < n) {K:PV→Sg→Ow→Prop}:xR gl [(k,some (ag,n))] K ⟨⟩ .ret ⟨fr,sg,ow⟩↔xO (loadP gl sg ag (n - 1000) (a0A fr k)) (fun v=>K (clo v) sg ow) ⟨⟩:=b9F hn
theorem c4K {k l:Nat} {K:PV→Sg→Ow→Prop}:xR gl [(k,none),(l,none)] K ⟨⟩ .ret ⟨fr,sg,ow⟩↔K (.tup [a0A fr k,a0A fr l]) sg ow:=g2W
theorem c4L {k l m:Nat} {K:PV→Sg→Ow→Prop}:xR gl [(k,none),(l,none),(m,none)] K ⟨⟩ .ret ⟨fr,sg,ow⟩↔K (.tup [a0A fr k,a0A fr l,a0A fr m]) sg ow:=g2W
end
theorem wCo:type_of% (And.intro @c0T (And.intro @c0S (And.intro @c0U (And.intro @c0V (And.intro @c0P (And.intro @c0W (And.intro @c0Q (And.intro @c0R (And.intro @c0X (And.intro @c0Y (And.intro @c0Z (And.intro @c1A (And.intro @c1B (And.intro @c1D (And.intro @c1E (And.intro @c1F (And.intro @c1N (And.intro @c1O (And.intro @c1G (And.intro @c1H (And.intro @c1I (And.intro @c1J (And.intro @c1K (And.intro @c1L (And.intro @c1M (And.intro @c4C (And.intro @c4D (And.intro @c4E (And.intro @c4F (And.intro @c4G (And.intro @c4K (@c4L)))))))))))))))))))))))))))))))):=And.intro @c0T (And.intro @c0S (And.intro @c0U (And.intro @c0V (And.intro @c0P (And.intro @c0W (And.intro @c0Q (And.intro @c0R (And.intro @c0X (And.intro @c0Y (And.intro @c0Z (And.intro @c1A (And.intro @c1B (And.intro @c1D (And.intro @c1E (And.intro @c1F (And.intro @c1N (And.intro @c1O (And.intro @c1G (And.intro @c1H (And.intro @c1I (And.intro @c1J (And.intro @c1K (And.intro @c1L (And.intro @c1M (And.intro @c4C (And.intro @c4D (And.intro @c4E (And.intro @c4F (And.intro @c4G (And.intro @c4K (@c4L)))))))))))))))))))))))))))))))
theorem wFr:type_of% (And.intro @b6P (And.intro @b6Q (And.intro @ev_s (And.intro @ev_c (And.intro @a1V (And.intro @b9S (And.intro @b9T (And.intro @c3S (@List.length_map.{0,0}))))))))):=And.intro @b6P (And.intro @b6Q (And.intro @ev_s (And.intro @ev_c (And.intro @a1V (And.intro @b9S (And.intro @b9T (And.intro @c3S (@List.length_map.{0,0}))))))))
theorem wOp:type_of% (And.intro @c1P (And.intro @c1Q (And.intro @c1R (And.intro @c1S (And.intro @c1T (And.intro @c1U (And.intro @c1V (And.intro @c1W (And.intro @c1X (And.intro @c1Y (And.intro @c1Z (And.intro @c2A (And.intro @c2B (And.intro @c2C (And.intro @c2D (And.intro @c2E (And.intro @c2F (And.intro @c2G (And.intro @c2H (And.intro @c2I (And.intro @c2J (And.intro @c2L (And.intro @c2M (And.intro @c2N (And.intro @c2O (And.intro @c2P (And.intro @c2Q (And.intro @c2R (And.intro @c2S (And.intro @c2T (And.intro @c2U (And.intro @c2V (And.intro @c2W (And.intro @c2X (And.intro @c2Y (And.intro @c2Z (And.intro @c3A (And.intro @c3B (And.intro @c3C (And.intro @c3D (And.intro @c3E (And.intro @c3F (And.intro @c3G (And.intro @c3H (And.intro @c3I (And.intro @c3J (And.intro @c3K (And.intro @c3L (And.intro @c3M (And.intro @c3N (And.intro @c3O (And.intro @c2K (And.intro @c3P (@c3Q)))))))))))))))))))))))))))))))))))))))))))))))))))))):=And.intro @c1P (And.intro @c1Q (And.intro @c1R (And.intro @c1S (And.intro @c1T (And.intro @c1U (And.intro @c1V (And.intro @c1W (And.intro @c1X (And.intro @c1Y (And.intro @c1Z (And.intro @c2A (And.intro @c2B (And.intro @c2C (And.intro @c2D (And.intro @c2E (And.intro @c2F (And.intro @c2G (And.intro @c2H (And.intro @c2I (And.intro @c2J (And.intro @c2L (And.intro @c2M (And.intro @c2N (And.intro @c2O (And.intro @c2P (And.intro @c2Q (And.intro @c2R (And.intro @c2S (And.intro @c2T (And.intro @c2U (And.intro @c2V (And.intro @c2W (And.intro @c2X (And.intro @c2Y (And.intro @c2Z (And.intro @c3A (And.intro @c3B (And.intro @c3C (And.intro @c3D (And.intro @c3E (And.intro @c3F (And.intro @c3G (And.intro @c3H (And.intro @c3I (And.intro @c3J (And.intro @c3K (And.intro @c3L (And.intro @c3M (And.intro @c3N (And.intro @c3O (And.intro @c2K (And.intro @c3P (@c3Q)))))))))))))))))))))))))))))))))))))))))))))))))))))
theorem wBi:type_of% (And.intro @b9U (And.intro @b9V (And.intro @b9W (And.intro @b9X (And.intro @b9Y (And.intro @b9Z (And.intro @c0A (And.intro @c0B (And.intro @c0C (And.intro @c0D (And.intro @c0E (And.intro @c0F (And.intro @c0G (And.intro @c0H (And.intro @c0I (And.intro @c0J (And.intro @c0K (And.intro @c0L (And.intro @c0M (@c0N)))))))))))))))))))):=And.intro @b9U (And.intro @b9V (And.intro @b9W (And.intro @b9X (And.intro @b9Y (And.intro @b9Z (And.intro @c0A (And.intro @c0B (And.intro @c0C (And.intro @c0D (And.intro @c0E (And.intro @c0F (And.intro @c0G (And.intro @c0H (And.intro @c0I (And.intro @c0J (And.intro @c0K (And.intro @c0L (And.intro @c0M (@c0N)))))))))))))))))))
theorem wLst:type_of% (And.intro @List.map_cons.{0,0} (And.intro @List.map_nil.{0,0} (And.intro @List.mapM_cons.{0,0,0} (And.intro @List.mapM_nil.{0,0,0} (And.intro @List.length_cons.{0} (And.intro @List.length_nil.{0} (And.intro @List.length_append.{0} (And.intro @List.getElem?_cons_zero.{0} (And.intro @List.getElem?_cons_succ.{0} (And.intro @List.nil_append.{0} (And.intro @List.cons_append.{0} (And.intro @List.append_assoc.{0} (And.intro @b9L (And.intro @b9M (And.intro @b9N (And.intro @b9O (And.intro @List.set_cons_zero.{0} (And.intro @List.set_cons_succ.{0} (And.intro @List.drop_zero.{0} (And.intro @List.drop_succ_cons.{0} (And.intro @List.take_succ_cons.{0} (And.intro @List.take_zero.{0} (And.intro @List.drop_nil.{0} (And.intro @List.take_nil.{0} (And.intro @Option.map_some.{0,0} (And.intro @Option.map_none.{0,0} (And.intro @Option.bind_some.{0,0} (And.intro @Option.bind_none.{0,0} (And.intro @Option.pure_def.{0} (And.intro @Option.bind_eq_bind.{0} (And.intro @List.all_cons.{0} (@List.all_nil.{0})))))))))))))))))))))))))))))))):=And.intro @List.map_cons.{0,0} (And.intro @List.map_nil.{0,0} (And.intro @List.mapM_cons.{0,0,0} (And.intro @List.mapM_nil.{0,0,0} (And.intro @List.length_cons.{0} (And.intro @List.length_nil.{0} (And.intro @List.length_append.{0} (And.intro @List.getElem?_cons_zero.{0} (And.intro @List.getElem?_cons_succ.{0} (And.intro @List.nil_append.{0} (And.intro @List.cons_append.{0} (And.intro @List.append_assoc.{0} (And.intro @b9L (And.intro @b9M (And.intro @b9N (And.intro @b9O (And.intro @List.set_cons_zero.{0} (And.intro @List.set_cons_succ.{0} (And.intro @List.drop_zero.{0} (And.intro @List.drop_succ_cons.{0} (And.intro @List.take_succ_cons.{0} (And.intro @List.take_zero.{0} (And.intro @List.drop_nil.{0} (And.intro @List.take_nil.{0} (And.intro @Option.map_some.{0,0} (And.intro @Option.map_none.{0,0} (And.intro @Option.bind_some.{0,0} (And.intro @Option.bind_none.{0,0} (And.intro @Option.pure_def.{0} (And.intro @Option.bind_eq_bind.{0} (And.intro @List.all_cons.{0} (@List.all_nil.{0})))))))))))))))))))))))))))))))
theorem wLog:type_of% (And.intro @Nat.zero_add (And.intro @Nat.add_zero (And.intro @Nat.zero_mul (And.intro @Nat.le_refl (And.intro @and_self (And.intro @and_true (And.intro @true_and (And.intro @if_true.{1} (And.intro @if_false.{1} (And.intro @Bool.not_true (And.intro @Bool.not_false (And.intro @Bool.not_not (And.intro @Bool.false_bne (And.intro @Bool.true_bne (And.intro @Bool.bne_false (And.intro @Bool.false_eq_true (And.intro @Bool.true_eq_false (And.intro @Bool.and_self (And.intro @Bool.and_true (And.intro @Bool.true_and (And.intro @ite_self.{1} (And.intro @Int.toNat_natCast (And.intro @Int.toNat_zero (And.intro @Int.le_refl (And.intro @c3R (@c3T)))))))))))))))))))))))))):=And.intro @Nat.zero_add (And.intro @Nat.add_zero (And.intro @Nat.zero_mul (And.intro @Nat.le_refl (And.intro @and_self (And.intro @and_true (And.intro @true_and (And.intro @if_true.{1} (And.intro @if_false.{1} (And.intro @Bool.not_true (And.intro @Bool.not_false (And.intro @Bool.not_not (And.intro @Bool.false_bne (And.intro @Bool.true_bne (And.intro @Bool.bne_false (And.intro @Bool.false_eq_true (And.intro @Bool.true_eq_false (And.intro @Bool.and_self (And.intro @Bool.and_true (And.intro @Bool.true_and (And.intro @ite_self.{1} (And.intro @Int.toNat_natCast (And.intro @Int.toNat_zero (And.intro @Int.le_refl (And.intro @c3R (@c3T)))))))))))))))))))))))))
end Go.Pi
