/- PI 27: rules for the operations of a region, for calls and for functions. -/
import Derived.Test.YtdjcnfacjfnakaaGreatPi26
set_option linter.unusedSimpArgs false
set_option linter.unusedVariables false
namespace Go.Pi
variable {F:Nat->Option Fn} {gl:Nat->Option (List T)} {dr:Bool} {d:Option Nat} {r:List Ins} {fr:List PV} {sg:Sg} {ow:Ow} {Q:S->Prop}
theorem b4E {k:Nat} {v:PV}:put fr (some k) v=a0B fr k v:=rfl
theorem b4F {v:PV}:put fr none v=fr:=rfl
theorem ev_s {k:Nat}:Opd.ev fr (.s k)=a0A fr k:=rfl
theorem ev_c {v:PV}:Opd.ev fr (.c v)=v:=rfl
def pickV:PV->PV->PV->Option PV
 |.t (.bool q),a,b=>some (if q=true then a else b)
 |_,_,_=>none
def cviV (k:IntKind):PV->Option PV
 |.t (.int _ n)=>some (.t (.int k (k.wrap n)))
 |_=>none
def extV (k:Nat):PV->Option PV
 |.tup vs=>vs[k]?
 |_=>none
def b4G (dr:Bool) (sg:Sg) (ow:Ow) (sz bytes:Nat) (z:List T):PV->PV->Option (PV×Sg×Ow)
 |.t (.int .i64 l),.t (.int .i64 c)=>if 0<=l/\l<=c/\a0M c.toNat bytes=true/\z.length=sz/\0 < sz then
    (if l=0 then (if dr=true then none else some (.own ow.length sz [],sg,ow++[0]))
     else some (.ls sg.length 0 l.toNat sz,sg++[(false,(List.replicate c.toNat z).flatten.map .t)],ow)) else none
 |_,_=>none
noncomputable def b4H (fr:List PV) (ks:List Nat) (sg sg':Sg):Option Unit:=if a1B fr ks sg sg'=true then some () else none
theorem b4I {ks:List Nat} {sg sg':Sg} (h:a1A fr ks sg sg'):b4H fr ks sg sg'=some ():=by
 unfold b4H
 rw[if_pos (keepsB_iff.2 h)]
def b4J (sz len:Nat) (z:List T) (ps:List (Nat×Nat×PV)):Option PV :=
 match fillP ((List.replicate len z).flatten.map .t) ps with
 |some cs=>(cs.mapM a0L).map λts=>.lit (a0C sz len ts)
 |none=>none
theorem b4K {a:Opd}:WpI F gl dr (⟨d,none,.mov a⟩::r) ⟨fr,sg,ow⟩ Q↔WpI F gl dr r ⟨put fr d (a.ev fr),sg,ow⟩ Q:=by
 rw[b4D rfl]
 exact g4Y
theorem b4L {c a b:Opd}:WpI F gl dr (⟨d,none,.pick c a b⟩::r) ⟨fr,sg,ow⟩ Q↔onO (pickV (c.ev fr) (a.ev fr) (b.ev fr)) (λv=>WpI F gl dr r ⟨put fr d v,sg,ow⟩ Q):=by
 rw[b4D rfl]
 simp only[a1F]
 cases c.ev fr with
 |t x=>cases x <;> rfl
 |_=>rfl
theorem b4M {a:Opd}:WpI F gl dr (⟨d,none,.box a⟩::r) ⟨fr,sg,ow⟩ Q↔WpI F gl dr r ⟨put fr d (.lp sg.length 0),sg++[(false,cellsP (a.ev fr))],ow⟩ Q:=by
 rw[b4D rfl]
 exact g4Y
theorem b4N {zs:List T}:WpI F gl dr (⟨d,none,.alloc zs⟩::r) ⟨fr,sg,ow⟩ Q↔WpI F gl dr r ⟨put fr d (.lp sg.length 0),sg++[(false,zs.map .t)],ow⟩ Q:=by
 rw[b4D rfl]
 exact g4Y
theorem b4O {zs:List T} {ps:List (Nat×Nat×Opd)}:WpI F gl dr (⟨d,none,.build zs ps⟩::r) ⟨fr,sg,ow⟩ Q↔onO (fillP (zs.map .t) (ps.map λp=>(p.1,p.2.1,p.2.2.ev fr))) (λcs=>WpI F gl dr r ⟨put fr d (mkAgg cs),sg,ow⟩ Q):=by
 rw[b4D rfl]
 simp only[a1F]
 cases fillP (zs.map .t) (ps.map λp=>(p.1,p.2.1,p.2.2.ev fr)) <;> rfl
theorem b4P {sz len:Nat} {z:List T} {ps:List (Nat×Opd)}:WpI F gl dr (⟨d,none,.bsl sz len z ps⟩::r) ⟨fr,sg,ow⟩ Q↔onO (b4J sz len z (ps.map λp=>(p.1 * sz,sz,p.2.ev fr))) (λv=>WpI F gl dr r ⟨put fr d v,sg,ow⟩ Q):=by
 rw[b4D rfl]
 simp only[a1F,b4J]
 cases fillP ((List.replicate len z).flatten.map .t) (ps.map λp=>(p.1 * sz,sz,p.2.ev fr)) with
 |none=>rfl
 |some cs=>cases hc:cs.mapM a0L <;> simp [hc,onO]
theorem b4Q {ag:Bool} {n:Nat} {a:Opd}:WpI F gl dr (⟨d,none,.load ag n a⟩::r) ⟨fr,sg,ow⟩ Q↔onO (loadP gl sg ag n (a.ev fr)) (λv=>WpI F gl dr r ⟨put fr d v,sg,ow⟩ Q):=by
 rw[b4D rfl]
 simp only[a1F]
 cases loadP gl sg ag n (a.ev fr) <;> rfl
theorem b4R {n:Nat} {a v:Opd}:WpI F gl dr (⟨d,none,.store n a v⟩::r) ⟨fr,sg,ow⟩ Q↔onO (storeP sg n (v.ev fr) (a.ev fr)) (λsg'=>WpI F gl dr r ⟨put fr d und,sg',ow⟩ Q):=by
 rw[b4D rfl]
 simp only[a1F]
 cases storeP sg n (v.ev fr) (a.ev fr) <;> rfl
theorem b4S {a:Opd}:WpI F gl dr (⟨d,none,.nck a⟩::r) ⟨fr,sg,ow⟩ Q↔onO (nckV (a.ev fr)) (λv=>WpI F gl dr r ⟨put fr d v,sg,ow⟩ Q):=by
 rw[b4D rfl]
 simp only[a1F]
 cases nckV (a.ev fr) <;> rfl
theorem b4T {op:BinOp} {a b:Opd}:WpI F gl dr (⟨d,none,.bin op a b⟩::r) ⟨fr,sg,ow⟩ Q↔onO (a0H op (a.ev fr) (b.ev fr)) (λv=>WpI F gl dr r ⟨put fr d (.t v),sg,ow⟩ Q):=by
 rw[b4D rfl]
 simp only[a1F]
 cases a0H op (a.ev fr) (b.ev fr) <;> rfl
theorem b4U {ng ag:Bool} {ks:List Nat} {a b:Opd}:WpI F gl dr (⟨d,none,.eqv ng ag ks a b⟩::r) ⟨fr,sg,ow⟩ Q↔onO (eqT ag ks (a.ev fr) (b.ev fr)) (λq=>WpI F gl dr r ⟨put fr d (.t (.bool (ng != q))),sg,ow⟩ Q):=by
 rw[b4D rfl]
 simp only[a1F]
 cases eqT ag ks (a.ev fr) (b.ev fr) <;> rfl
theorem b4V {ng:Bool} {kd:Nat} {a:Opd}:WpI F gl dr (⟨d,none,.isn ng kd a⟩::r) ⟨fr,sg,ow⟩ Q↔onO (isNil kd (a.ev fr)) (λq=>WpI F gl dr r ⟨put fr d (.t (.bool (ng != q))),sg,ow⟩ Q):=by
 rw[b4D rfl]
 simp only[a1F]
 cases isNil kd (a.ev fr) <;> rfl
theorem b4W {op:UnOp} {a:Opd}:WpI F gl dr (⟨d,none,.un op a⟩::r) ⟨fr,sg,ow⟩ Q↔onO (unT op (a.ev fr)) (λv=>WpI F gl dr r ⟨put fr d (.t v),sg,ow⟩ Q):=by
 rw[b4D rfl]
 simp only[a1F]
 cases unT op (a.ev fr) <;> rfl
theorem b4X {k:IntKind} {a:Opd}:WpI F gl dr (⟨d,none,.cvi k a⟩::r) ⟨fr,sg,ow⟩ Q↔onO (cviV k (a.ev fr)) (λv=>WpI F gl dr r ⟨put fr d v,sg,ow⟩ Q):=by
 rw[b4D rfl]
 simp only[a1F]
 cases a.ev fr with
 |t x=>cases x <;> rfl
 |_=>rfl
theorem b4Y {k:Nat} {a:Opd}:WpI F gl dr (⟨d,none,.ext k a⟩::r) ⟨fr,sg,ow⟩ Q↔onO (extV k (a.ev fr)) (λv=>WpI F gl dr r ⟨put fr d v,sg,ow⟩ Q):=by
 rw[b4D rfl]
 simp only[a1F]
 cases a.ev fr with
 |tup vs =>
  simp only[extV]
  cases vs[k]? <;> rfl
 |_=>rfl
theorem b4Z {sz bytes:Nat} {z:List T} {l c:Opd}:WpI F gl dr (⟨d,none,.mks sz bytes z l c⟩::r) ⟨fr,sg,ow⟩ Q↔onO (b4G dr sg ow sz bytes z (l.ev fr) (c.ev fr)) (λx=>WpI F gl dr r ⟨put fr d x.1,x.2.1,x.2.2⟩ Q):=by
 rw[b4D rfl]
 have:a1F noC gl dr (.mks sz bytes z l c) ⟨fr,sg,ow⟩=b4G dr sg ow sz bytes z (l.ev fr) (c.ev fr):=by
  simp only[a1F]
  unfold b4G
  cases dr <;> rfl
 rw[this]
def b5A (sz bytes:Nat) (z:List T):PV->PV->Option PV
 |.t (.int .i64 l),.t (.int .i64 c)=>if 0<=l/\l<=c/\a0M c.toNat bytes=true/\z.length=sz/\0 < sz then some (.t (.sl false (List.replicate l.toNat z))) else none
 |_,_=>none
theorem b5B {sz bytes:Nat} {z:List T} {l c:Opd}:WpI F gl dr (⟨d,none,.mkz sz bytes z l c⟩::r) ⟨fr,sg,ow⟩ Q↔onO (b5A sz bytes z (l.ev fr) (c.ev fr)) (λv=>WpI F gl dr r ⟨put fr d v,sg,ow⟩ Q):=by
 rw[b4D rfl]
 have:a1F noC gl dr (.mkz sz bytes z l c) ⟨fr,sg,ow⟩=(b5A sz bytes z (l.ev fr) (c.ev fr)).map λv=>(v,sg,ow):=by
  simp only[a1F]
  unfold b5A
  split
  ·rename_i l' c' hl hc
   simp only[hl,hc]
   split <;> rfl
  ·rename_i hno
   split
   ·rename_i l' c' hl hc
    exact absurd hc (hno _ _ hl)
   ·rfl
 rw[this]
 cases b5A sz bytes z (l.ev fr) (c.ev fr) <;> rfl
theorem b5C {sz:Nat} {a:Opd} {lo hi mx:Option Opd}:WpI F gl dr (⟨d,none,.slc sz a lo hi mx⟩::r) ⟨fr,sg,ow⟩ Q↔onO (a0Q sz (a.ev fr) (lo.map (Opd.ev fr)) (hi.map (Opd.ev fr)) (mx.map (Opd.ev fr))) (λv=>WpI F gl dr r ⟨put fr d v,sg,ow⟩ Q):=by
 rw[b4D rfl]
 simp only[a1F]
 cases a0Q sz (a.ev fr) (lo.map (Opd.ev fr)) (hi.map (Opd.ev fr)) (mx.map (Opd.ev fr)) <;> rfl
theorem b5D {off:Nat} {a:Opd}:WpI F gl dr (⟨d,none,.fad off a⟩::r) ⟨fr,sg,ow⟩ Q↔onO (fieldA off (a.ev fr)) (λv=>WpI F gl dr r ⟨put fr d v,sg,ow⟩ Q):=by
 rw[b4D rfl]
 simp only[a1F]
 cases fieldA off (a.ev fr) <;> rfl
theorem b5E {ag:Bool} {off n:Nat} {a:Opd}:WpI F gl dr (⟨d,none,.fld ag off n a⟩::r) ⟨fr,sg,ow⟩ Q↔onO (partV ag n off (a.ev fr)) (λv=>WpI F gl dr r ⟨put fr d v,sg,ow⟩ Q):=by
 rw[b4D rfl]
 simp only[a1F]
 cases partV ag n off (a.ev fr) <;> rfl
theorem b5F {n sz:Nat} {a i:Opd}:WpI F gl dr (⟨d,none,.iaa n sz a i⟩::r) ⟨fr,sg,ow⟩ Q↔onO (indexA n sz (a.ev fr) (i.ev fr)) (λv=>WpI F gl dr r ⟨put fr d v,sg,ow⟩ Q):=by
 rw[b4D rfl]
 simp only[a1F]
 cases indexA n sz (a.ev fr) (i.ev fr) <;> rfl
theorem b5G {sz:Nat} {a i:Opd}:WpI F gl dr (⟨d,none,.ias sz a i⟩::r) ⟨fr,sg,ow⟩ Q↔onO (indexS sz (a.ev fr) (i.ev fr)) (λv=>WpI F gl dr r ⟨put fr d v,sg,ow⟩ Q):=by
 rw[b4D rfl]
 simp only[a1F]
 cases indexS sz (a.ev fr) (i.ev fr) <;> rfl
theorem b5H {ag:Bool} {n sz:Nat} {a i:Opd}:WpI F gl dr (⟨d,none,.ixa ag n sz a i⟩::r) ⟨fr,sg,ow⟩ Q↔onO (indexV ag n sz (a.ev fr) (i.ev fr)) (λv=>WpI F gl dr r ⟨put fr d v,sg,ow⟩ Q):=by
 rw[b4D rfl]
 simp only[a1F]
 cases indexV ag n sz (a.ev fr) (i.ev fr) <;> rfl
theorem b5I {a i:Opd}:WpI F gl dr (⟨d,none,.ixs a i⟩::r) ⟨fr,sg,ow⟩ Q↔onO (indexStr (a.ev fr) (i.ev fr)) (λv=>WpI F gl dr r ⟨put fr d v,sg,ow⟩ Q):=by
 rw[b4D rfl]
 simp only[a1F]
 cases indexStr (a.ev fr) (i.ev fr) <;> rfl
theorem b5J {st:Bool} {a:Opd}:WpI F gl dr (⟨d,none,.len st a⟩::r) ⟨fr,sg,ow⟩ Q↔onO (lenP st (a.ev fr)) (λn=>WpI F gl dr r ⟨put fr d (.t (.int .i64 (n:Int))),sg,ow⟩ Q):=by
 rw[b4D rfl]
 simp only[a1F]
 cases lenP st (a.ev fr) <;> rfl
theorem b5K {sz bytes:Nat} {a b:Opd}:WpI F gl dr (⟨d,none,.app sz bytes a b⟩::r) ⟨fr,sg,ow⟩ Q↔onO (a0R dr sg ow sz bytes (a.ev fr) (b.ev fr)) (λx=>WpI F gl dr r ⟨put fr d x.1,sg,x.2⟩ Q):=by
 rw[b4D rfl]
 simp only[a1F]
 cases a0R dr sg ow sz bytes (a.ev fr) (b.ev fr) <;> rfl
theorem b5L :WpI F gl dr (⟨d,none,.mkm⟩::r) ⟨fr,sg,ow⟩ Q↔WpI F gl dr r ⟨put fr d (.mp sg.length),sg++[(true,[])],ow⟩ Q:=by
 rw[b4D rfl]
 exact g4Y
theorem b5M {ck:Bool} {kd:Nat} {z:T} {a i:Opd}:WpI F gl dr (⟨d,none,.mlk ck kd z a i⟩::r) ⟨fr,sg,ow⟩ Q↔onO (a0W sg ck kd z (a.ev fr) (i.ev fr)) (λv=>WpI F gl dr r ⟨put fr d v,sg,ow⟩ Q):=by
 rw[b4D rfl]
 simp only[a1F]
 cases a0W sg ck kd z (a.ev fr) (i.ev fr) <;> rfl
theorem b5N {kd:Nat} {a k v:Opd}:WpI F gl dr (⟨d,none,.mup kd a k v⟩::r) ⟨fr,sg,ow⟩ Q↔onO (a0X sg kd (a.ev fr) (k.ev fr) (v.ev fr)) (λsg'=>WpI F gl dr r ⟨put fr d und,sg',ow⟩ Q):=by
 rw[b4D rfl]
 simp only[a1F]
 cases a0X sg kd (a.ev fr) (k.ev fr) (v.ev fr) <;> rfl
theorem b5O {kd:Nat} {a k:Opd}:WpI F gl dr (⟨d,none,.mdl kd a k⟩::r) ⟨fr,sg,ow⟩ Q↔onO (a0Y sg kd (a.ev fr) (k.ev fr)) (λsg'=>WpI F gl dr r ⟨put fr d und,sg',ow⟩ Q):=by
 rw[b4D rfl]
 simp only[a1F]
 cases a0Y sg kd (a.ev fr) (k.ev fr) <;> rfl
theorem b5P {mx:Bool} {a b:Opd}:WpI F gl dr (⟨d,none,.mxn mx a b⟩::r) ⟨fr,sg,ow⟩ Q↔onO (mxT mx (a.ev fr) (b.ev fr)) (λv=>WpI F gl dr r ⟨put fr d (.t v),sg,ow⟩ Q):=by
 rw[b4D rfl]
 simp only[a1F]
 cases mxT mx (a.ev fr) (b.ev fr) <;> rfl
theorem b5Q {sz bytes:Nat} {a b:Opd}:WpI F gl dr (⟨d,none,.apb sz bytes a b⟩::r) ⟨fr,sg,ow⟩ Q↔onO (a0S sg sz bytes (a.ev fr) (b.ev fr)) (λx=>WpI F gl dr r ⟨put fr d x.1,x.2,ow⟩ Q):=by
 rw[b4D rfl]
 simp only[a1F]
 cases a0S sg sz bytes (a.ev fr) (b.ev fr) <;> rfl
theorem b5R {ag:Bool} {n:Nat} {a:Opd} {k:Nat}:WpI F gl dr (⟨d,none,.ldk ag n a k⟩::r) ⟨fr,sg,ow⟩ Q↔onO (a1C gl sg ag n (a0A fr k) (a.ev fr)) (λv=>WpI F gl dr r ⟨put fr d v,sg,ow⟩ Q):=by
 rw[b4D rfl]
 simp only[a1F]
 cases a1C gl sg ag n (a0A fr k) (a.ev fr) <;> rfl
theorem b5S {ag:Bool} {n:Nat} {a:Opd}:WpI F gl dr (⟨d,none,.ldt ag n a⟩::r) ⟨fr,sg,ow⟩ Q↔onO (loadP gl [] ag n (a.ev fr)) (λv=>WpI F gl dr r ⟨put fr d v,sg,ow⟩ Q):=by
 rw[b4D rfl]
 simp only[a1F]
 cases loadP gl [] ag n (a.ev fr) <;> rfl
theorem b5T {n:Nat} {a v:Opd} {ks:List Nat}:WpI F gl dr (⟨d,none,.stok n a v ks⟩::r) ⟨fr,sg,ow⟩ Q↔onO (storeP sg n (v.ev fr) (a.ev fr)) (λsg'=>onO (b4H fr ks sg sg') (λ_=>WpI F gl dr r ⟨put fr d und,sg',ow⟩ Q)):=by
 rw[b4D rfl]
 simp only[a1F,b4H]
 cases storeP sg n (v.ev fr) (a.ev fr) with
 |none=>rfl
 |some sg'=>simp only[onO];cases a1B fr ks sg sg' <;> rfl
theorem b5U {f:Nat} {caps:List Opd}:WpI F gl dr (⟨d,none,.mkf f caps⟩::r) ⟨fr,sg,ow⟩ Q↔WpI F gl dr r ⟨put fr d (.fn f (caps.map (Opd.ev fr))),sg,ow⟩ Q:=by
 rw[b4D rfl]
 exact g4Y
theorem b5V {k:Nat} {as:List Opd}:WpI F gl dr (⟨d,none,.xt k as⟩::r) ⟨fr,sg,ow⟩ Q↔onO (((as.map (Opd.ev fr)).mapM close).bind (a0O gl k)) (λv=>WpI F gl dr r ⟨put fr d v,sg,ow⟩ Q):=by
 rw[b4D rfl]
 simp only[a1F]
 cases (as.map (Opd.ev fr)).mapM close with
 |none=>rfl
 |some ts=>simp only[Option.bind_some];cases a0O gl k ts <;> rfl
def CallE (F:Nat->Option Fn) (gl:Nat->Option (List T)) (f:Nat) (args:List PV) (sg:Sg) (ow:Ow) (K:PV->Sg->Ow->Prop):Prop:=∃ n v sg' ow',a1M F gl n f args sg ow=some (v,sg',ow')/\K v sg' ow'
def CallP (F:Nat->Option Fn) (gl:Nat->Option (List T)) (f:Nat) (ts:List T) (K:PV->Prop):Prop:=CallE F gl f (ts.map .t) [] [] λv sg ow=>onO (retV sg ow v) K
def aft (dr:Bool) (ow:Ow):PV->PV×Ow
 |.own _ z es=>if dr=true then (.t (.sl false es),ow) else (.own ow.length z es,ow++[es.length])
 |v=>(v,ow)
theorem b5W {f:Nat} {args:List PV} {K:PV->Sg->Ow->Prop} {n:Nat} {v:PV} {sg':Sg} {ow':Ow} (h:a1M F gl n f args sg ow=some (v,sg',ow')):CallE F gl f args sg ow K↔K v sg' ow':=by
 refine⟨λ⟨m,v2,sg2,ow2,h2,hk⟩=>?_,λhk=>⟨n,v,sg',ow',h,hk⟩⟩
 have a:=b3Q (g6S n m) _ _ _ _ _ h
 have b:=b3Q (g6T n m) _ _ _ _ _ h2
 rw[a] at b
 injection b with b
 injection b with e1 e2
 injection e2 with e2 e3
 subst e1 e2 e3
 exact hk
theorem CallE.iff {f:Nat} {args:List PV} {v:PV} {sg':Sg} {ow':Ow} {K:PV->Sg->Ow->Prop} (h:CallE F gl f args sg ow λv2 sg2 ow2=>v2=v/\sg2=sg'/\ow2=ow'):CallE F gl f args sg ow K↔K v sg' ow':=by
 obtain⟨n,v2,sg2,ow2,h,rfl,rfl,rfl⟩:=h
 exact b5W h
theorem CallP.iff {f:Nat} {ts:List T} {v:PV} {K:PV->Prop} (h:CallP F gl f ts λv2=>v2=v):CallP F gl f ts K↔K v:=by
 obtain⟨n,v2,sg2,ow2,h,hr⟩:=h
 unfold CallP
 rw[b5W h]
 unfold onO at hr
 split at hr
 ·rename_i x hx
  subst hr
  rw[hx]
  exact g4Y
 ·cases hr
theorem CallE.mono {f:Nat} {args:List PV} {K K':PV->Sg->Ow->Prop} (h:CallE F gl f args sg ow K) (hk:∀ v sg' ow',K v sg' ow'->K' v sg' ow'):CallE F gl f args sg ow K':=by
 obtain⟨n,v,sg',ow',h1,h2⟩:=h
 exact⟨n,v,sg',ow',h1,hk _ _ _ h2⟩
theorem b5X {f:Nat} {as:List Opd}:WpI F gl dr (⟨d,none,.call f as⟩::r) ⟨fr,sg,ow⟩ Q↔onO ((as.map (Opd.ev fr)).mapM close) (λts=>CallP F gl f ts λv=>WpI F gl dr r ⟨put fr d (aft dr ow v).1,sg,(aft dr ow v).2⟩ Q):=by
 cases hts:(as.map (Opd.ev fr)).mapM close with
 |none =>
  refine⟨λ⟨n,s',h,_⟩=>?_,λh=>absurd h id⟩
  simp only[a1H,a1G,wanted,if_true,a1F,hts] at h
  cases h
 |some ts =>
  rw[b3S]
  have key:∀ (n:Nat) (v:PV) (sg':Sg) (ow':Ow) (x:PV),a1M F gl n f (ts.map .t) [] []=some (v,sg',ow')->retV sg' ow' v=some x ->
    a1H (a1M F gl n) gl dr (⟨d,none,.call f as⟩::r) ⟨fr,sg,ow⟩=a1H (a1M F gl n) gl dr r ⟨put fr d (aft dr ow x).1,sg,(aft dr ow x).2⟩:=by
   intro n v sg' ow' x h hr
   simp only[a1H,a1G,wanted,if_true,a1F,hts,h,hr]
   cases x <;> first|rfl|(cases dr <;> rfl)
  constructor
  ·intro ⟨n,s',h,hq⟩
   have h':=h
   simp only[a1H,a1G,wanted,if_true,a1F,hts] at h'
   split at h'
   ·rename_i s1 h1
    split at h1
    ·rename_i h2
     split at h2
     ·rename_i v sg' ow' h3
      cases hr:retV sg' ow' v with
      |none=>rw[hr] at h2;cases h2
      |some x =>
       refine⟨n,v,sg',ow',h3,?_⟩
       simp only[hr,b3S]
       rw[key n v sg' ow' x h3 hr] at h
       exact⟨n,s',h,hq⟩
     ·cases h2
    ·cases h1
   ·cases h'
  ·intro ⟨n,v,sg',ow',h,hr⟩
   simp only[onO] at hr
   split at hr
   ·rename_i x hx
    obtain⟨m,s',h2,hq⟩:=hr
    refine⟨max n m,s',?_,hq⟩
    rw[key (max n m) v sg' ow' x (b3Q (g6S n m) _ _ _ _ _ h) hx]
    exact b3M (b3Q (g6T n m)) h2
   ·cases hr
theorem b5Y {f:Nat} {as:List Opd} {ks:List Nat}:WpI F gl dr (⟨d,none,.calz f as ks⟩::r) ⟨fr,sg,ow⟩ Q↔onO (a1E sg (as.map (Opd.ev fr))) λz=>onO (z.1.mapM close) λts=>CallP F gl f ts λv=>onO (b4H fr ks sg z.2) λ_=>WpI F gl dr r ⟨put fr d (aft dr ow v).1,z.2,(aft dr ow v).2⟩ Q:=by
 cases hz:a1E sg (as.map (Opd.ev fr)) with
 |none =>
  refine⟨λ⟨n,s',h,_⟩=>?_,λh=>absurd h id⟩
  simp only[a1H,a1G,wanted,if_true,a1F,hz] at h
  cases h
 |some z =>
 obtain⟨vs,sg1⟩:=z
 rw[b3S]
 cases hts:vs.mapM close with
 |none =>
  refine⟨λ⟨n,s',h,_⟩=>?_,λh=>absurd h id⟩
  simp only[a1H,a1G,wanted,if_true,a1F,hz,hts] at h
  cases h
 |some ts =>
  rw[b3S]
  have key:∀ (n:Nat) (v:PV) (sg':Sg) (ow':Ow) (x:PV),a1M F gl n f (ts.map .t) [] []=some (v,sg',ow')->retV sg' ow' v=some x ->
    a1H (a1M F gl n) gl dr (⟨d,none,.calz f as ks⟩::r) ⟨fr,sg,ow⟩=if a1B fr ks sg sg1=true then a1H (a1M F gl n) gl dr r ⟨put fr d (aft dr ow x).1,sg1,(aft dr ow x).2⟩ else none:=by
   intro n v sg' ow' x h hr
   simp only[a1H,a1G,wanted,if_true,a1F,hz,hts,h,hr]
   by_cases hk:a1B fr ks sg sg1=true
   ·simp only[hk,if_true]
    cases x <;> first|rfl|(cases dr <;> rfl)
   ·simp only[hk]
    rfl
  constructor
  ·intro ⟨n,s',h,hq⟩
   have h':=h
   simp only[a1H,a1G,wanted,if_true,a1F,hz,hts] at h'
   split at h'
   ·rename_i s1 h1
    split at h1
    ·rename_i h2
     split at h2
     ·rename_i v sg' ow' h3
      split at h2
      ·rename_i hk
       cases hr:retV sg' ow' v with
       |none=>rw[hr] at h2;cases h2
       |some x =>
        refine⟨n,v,sg',ow',h3,?_⟩
        simp only[hr,b3S]
        rw[key n v sg' ow' x h3 hr,if_pos hk] at h
        show onO (b4H fr ks sg sg1) _
        unfold b4H
        rw[if_pos hk]
        exact⟨n,s',h,hq⟩
      ·cases h2
     ·cases h2
    ·cases h1
   ·cases h'
  ·intro ⟨n,v,sg',ow',h,hr⟩
   simp only[onO] at hr
   split at hr
   ·rename_i x hx
    have hk':onO (b4H fr ks sg sg1) (λ_=>WpI F gl dr r ⟨put fr d (aft dr ow x).1,sg1,(aft dr ow x).2⟩ Q):=hr
    unfold b4H at hk'
    by_cases hk:a1B fr ks sg sg1=true
    ·rw[if_pos hk] at hk'
     obtain⟨m,s',h2,hq⟩:=hk'
     refine⟨max n m,s',?_,hq⟩
     rw[key (max n m) v sg' ow' x (b3Q (g6S n m) _ _ _ _ _ h) hx,if_pos hk]
     exact b3M (b3Q (g6T n m)) h2
    ·rw[if_neg hk] at hk'
     exact absurd hk' id
   ·cases hr
theorem b5Z {zs:List T} {ps:List (Nat×Nat×Opd)}:WpI F gl dr (⟨d,none,.bldz zs ps⟩::r) ⟨fr,sg,ow⟩ Q↔onO (a1E sg (ps.map λp=>p.2.2.ev fr)) λz=>onO (fillP (zs.map .t) ((ps.zip z.1).map λp=>(p.1.1,p.1.2.1,p.2))) λcs=>WpI F gl dr r ⟨put fr d (mkAgg cs),z.2,ow⟩ Q:=by
 rw[b4D rfl]
 simp only[a1F]
 cases hz:a1E sg (ps.map λp=>p.2.2.ev fr) with
 |none=>exact g4Y
 |some z =>
  obtain⟨vs,sg1⟩:=z
  simp only[b3S]
  cases fillP (zs.map .t) ((ps.zip vs).map λp=>(p.1.1,p.1.2.1,p.2)) <;> rfl
theorem b6A {f:Nat} {as:List Opd}:WpI F gl dr (⟨d,none,.cale f as⟩::r) ⟨fr,sg,ow⟩ Q↔CallE F gl f (as.map (Opd.ev fr)) sg ow λv sg' ow'=>WpI F gl dr r ⟨put fr d v,sg',ow'⟩ Q:=by
 have key:∀ (n:Nat) (v:PV) (sg':Sg) (ow':Ow),a1M F gl n f (as.map (Opd.ev fr)) sg ow=some (v,sg',ow') ->
   a1H (a1M F gl n) gl dr (⟨d,none,.cale f as⟩::r) ⟨fr,sg,ow⟩=a1H (a1M F gl n) gl dr r ⟨put fr d v,sg',ow'⟩:=by
  intro n v sg' ow' h
  simp only[a1H,a1G,wanted,if_true,a1F]
  rw[h]
 constructor
 ·intro ⟨n,s',h,hq⟩
  cases hc:a1M F gl n f (as.map (Opd.ev fr)) sg ow with
  |none =>
   simp only[a1H,a1G,wanted,if_true,a1F] at h
   rw[hc] at h
   cases h
  |some x =>
   obtain⟨v,sg',ow'⟩:=x
   rw[key n v sg' ow' hc] at h
   exact⟨n,v,sg',ow',hc,n,s',h,hq⟩
 ·intro ⟨n,v,sg',ow',h,m,s',h2,hq⟩
  refine⟨max n m,s',?_,hq⟩
  rw[key (max n m) v sg' ow' (b3Q (g6S n m) _ _ _ _ _ h)]
  exact b3M (b3Q (g6T n m)) h2
theorem b6B {f:Nat} {as:List Opd} {ks:List Nat}:WpI F gl dr (⟨d,none,.calk f as ks⟩::r) ⟨fr,sg,ow⟩ Q↔CallE F gl f (as.map (Opd.ev fr)) sg ow λv sg' ow'=>onO (b4H fr ks sg sg') (λ_=>WpI F gl dr r ⟨put fr d v,sg',ow'⟩ Q):=by
 have key:∀ (n:Nat) (v:PV) (sg':Sg) (ow':Ow),a1M F gl n f (as.map (Opd.ev fr)) sg ow=some (v,sg',ow') ->
   a1H (a1M F gl n) gl dr (⟨d,none,.calk f as ks⟩::r) ⟨fr,sg,ow⟩=if a1B fr ks sg sg'=true then a1H (a1M F gl n) gl dr r ⟨put fr d v,sg',ow'⟩ else none:=by
  intro n v sg' ow' h
  simp only[a1H,a1G,wanted,if_true,a1F]
  rw[h]
  simp only
  cases a1B fr ks sg sg' <;> rfl
 constructor
 ·intro ⟨n,s',h,hq⟩
  cases hc:a1M F gl n f (as.map (Opd.ev fr)) sg ow with
  |none =>
   simp only[a1H,a1G,wanted,if_true,a1F] at h
   rw[hc] at h
   cases h
  |some x =>
   obtain⟨v,sg',ow'⟩:=x
   rw[key n v sg' ow' hc] at h
   split at h
   ·rename_i hk
    refine⟨n,v,sg',ow',hc,?_⟩
    show onO (b4H fr ks sg sg') _
    unfold b4H
    rw[if_pos hk]
    exact⟨n,s',h,hq⟩
   ·cases h
 ·intro ⟨n,v,sg',ow',h,hk⟩
  have hk':onO (b4H fr ks sg sg') (λ_=>WpI F gl dr r ⟨put fr d v,sg',ow'⟩ Q):=hk
  unfold b4H at hk'
  cases hkb:a1B fr ks sg sg' with
  |true =>
   rw[hkb,if_pos rfl] at hk'
   obtain⟨m,s',h2,hq⟩:=hk'
   refine⟨max n m,s',?_,hq⟩
   rw[key (max n m) v sg' ow' (b3Q (g6S n m) _ _ _ _ _ h),if_pos hkb]
   exact b3M (b3Q (g6T n m)) h2
  |false =>
   rw[hkb] at hk'
   exact absurd hk' id
def fnK (v:PV) (K:Nat->List PV->Prop):Prop:=match v with
 |.fn f caps=>K f caps
 |_=>False
theorem b6C {f:Nat} {caps:List PV} {K:Nat->List PV->Prop}:fnK (.fn f caps) K↔K f caps:=g4Y
theorem b6D {g:Opd} {as:List Opd}:WpI F gl dr (⟨d,none,.calv g as⟩::r) ⟨fr,sg,ow⟩ Q↔fnK (g.ev fr) λf caps=>CallE F gl f (as.map (Opd.ev fr)++caps) sg ow λv sg' ow'=>WpI F gl dr r ⟨put fr d v,sg',ow'⟩ Q:=by
 cases hg:g.ev fr with
 |fn f caps =>
  rw[b6C]
  have key:∀ (n:Nat) (v:PV) (sg':Sg) (ow':Ow),a1M F gl n f (as.map (Opd.ev fr)++caps) sg ow=some (v,sg',ow') ->
    a1H (a1M F gl n) gl dr (⟨d,none,.calv g as⟩::r) ⟨fr,sg,ow⟩=a1H (a1M F gl n) gl dr r ⟨put fr d v,sg',ow'⟩:=by
   intro n v sg' ow' h
   simp only[a1H,a1G,wanted,if_true,a1F,hg]
   rw[h]
  constructor
  ·intro ⟨n,s',h,hq⟩
   cases hc:a1M F gl n f (as.map (Opd.ev fr)++caps) sg ow with
   |none =>
    simp only[a1H,a1G,wanted,if_true,a1F,hg] at h
    rw[hc] at h
    cases h
   |some x =>
    obtain⟨v,sg',ow'⟩:=x
    rw[key n v sg' ow' hc] at h
    exact⟨n,v,sg',ow',hc,n,s',h,hq⟩
  ·intro ⟨n,v,sg',ow',h,m,s',h2,hq⟩
   refine⟨max n m,s',?_,hq⟩
   rw[key (max n m) v sg' ow' (b3Q (g6S n m) _ _ _ _ _ h)]
   exact b3M (b3Q (g6T n m)) h2
 |_ =>
  refine⟨λ⟨n,s',h,_⟩=>?_,λh=>absurd h id⟩
  simp only[a1H,a1G,wanted,if_true,a1F,hg] at h
  cases h
def b6E (gl:Nat->Option (List T)) (res:List (Nat×Option (Bool×Nat))) (K:PV->Sg->Ow->Prop):Ex->S->Prop
 |.normal,s=>onO (a1L gl s res) λv=>K v s.sg s.ow
 |.ret,s=>onO (a1L gl s res) λv=>K v s.sg s.ow
 |.exit _,_=>False
theorem b6F {f:Nat} {fn:Fn} {args:List PV} {K:PV->Sg->Ow->Prop} (hf:F f=some fn) (hl:args.length=fn.np) (h:Wp F gl fn.body ⟨args,sg,ow⟩ (b6E gl fn.res K)):CallE F gl f args sg ow K:=by
 obtain⟨n,ex,s',h,hk⟩:=h
 cases ex with
 |exit id=>cases hk
 |normal =>
  cases hv:a1L gl s' fn.res with
  |none=>simp only[b6E,hv,onO] at hk
  |some v =>
   simp only[b6E,hv,onO] at hk
   exact⟨n+1,v,s'.sg,s'.ow,by simp only[a1M,hf,hl,if_true,h,hv,g7F],hk⟩
 |ret =>
  cases hv:a1L gl s' fn.res with
  |none=>simp only[b6E,hv,onO] at hk
  |some v =>
   simp only[b6E,hv,onO] at hk
   exact⟨n+1,v,s'.sg,s'.ow,by simp only[a1M,hf,hl,if_true,h,hv,g7F],hk⟩
theorem b6G {f:Nat} {fn:Fn} {ts:List T} {K:PV->Prop} (hf:F f=some fn) (hl:ts.length=fn.np) (h:Wp F gl fn.body ⟨ts.map .t,[],[]⟩ (b6E gl fn.res λv sg ow=>onO (retV sg ow v) K)):CallP F gl f ts K :=
 b6F hf (by simpa using hl) h
theorem b6H {gl:Nat->Option (List T)} {k n:Nat} {ag:Bool} (hn:n < 1000) {K:PV->Sg->Ow->Prop} {s:S}:b6E gl [(k,some (ag,n))] K .ret s↔onO (loadP gl s.sg ag n (a0A s.fr k)) λv=>K v s.sg s.ow:=by
 simp only[b6E,a1L,g6C,List.mapM_nil,a1K]
 rw[if_pos hn]
 cases loadP gl s.sg ag n (a0A s.fr k) <;> rfl
theorem b6I {gl:Nat->Option (List T)} {k n:Nat} {ag:Bool} (hn:1000 < n) {K:PV->Sg->Ow->Prop} {s:S}:b6E gl [(k,some (ag,n))] K .ret s↔onO (loadP gl s.sg ag (n - 1000) (a0A s.fr k)) λv=>K (clo v) s.sg s.ow:=by
 simp only[b6E,a1L,g6C,List.mapM_nil,a1K]
 rw[if_neg (by omega),if_neg (by omega)]
 cases loadP gl s.sg ag (n - 1000) (a0A s.fr k) <;> rfl
end Go.Pi
