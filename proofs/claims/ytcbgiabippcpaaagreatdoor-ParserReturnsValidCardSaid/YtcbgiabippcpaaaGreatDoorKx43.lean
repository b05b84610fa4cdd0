/- KX 5: programs of the circuit language as plain data; which are valid. No program in sight. -/
import Derived.Test.YtcbgiabippcpaaaGreatDoorPi31
import Derived.Test.YtcbgiabippcpaaaGreatDoorLx3
import Derived.Test.YtcbgiabippcpaaaGreatDoorLx3
namespace Go.Ky
open Go.Pi
abbrev Nm:=List UInt8
structure Ty where
 kind:Int
 bits:Int
 len:Int
deriving DecidableEq
abbrev tTy (t:Ty):List T:=[.int .i64 t.kind,.int .i64 t.bits,.int .i64 t.len]
def zTy:Ty:=⟨0,0,0⟩
def d2I:Ty:=⟨1,0,0⟩
def d2J:Ty:=⟨2,0,0⟩
inductive Exp where
 |mk (op val:Int) (name:Nm) (nl:Bool) (args:List Exp)
instance:Inhabited Exp:=⟨.mk 0 0 [] true []⟩
def Exp.op:Exp→Int|.mk o _ _ _ _=>o
def Exp.val:Exp→Int|.mk _ v _ _ _=>v
def Exp.name:Exp→Nm|.mk _ _ n _ _=>n
def Exp.nl:Exp→Bool|.mk _ _ _ b _=>b
def Exp.args:Exp→List Exp|.mk _ _ _ _ l=>l
theorem Exp.ind {p:Exp→Prop} (h:∀ e:Exp,(∀ a,a∈e.args→p a)→p e):∀ e,p e:=by
 intro e
 refine Exp.rec (motive_1:=p) (motive_2:=fun l=>∀ a,a∈l→p a) ?_ ?_ ?_ e
 ·intro o v n b l ih
  exact h (.mk o v n b l) ih
 ·intro a ha;cases ha
 ·intro x l hx hl a ha
  rcases h2X.1 ha with e|e
  ·subst e;exact hx
  ·exact hl a e
mutual
def tEx:Exp→List T
 |.mk o v n nl l=>[.int .i64 o,.int .u64 v,.str n,.sl nl (d2K l)]
def d2K:List Exp→List (List T)
 |[]=>[]
 |e::r=>tEx e::d2K r
end
theorem d2L (l:List Exp):d2K l=l.map tEx:=by
 induction l with
 |nil=>rfl
 |cons e r ih=>rw[d2K,ih];rfl
theorem d2M (e:Exp):tEx e=[.int .i64 e.op,.int .u64 e.val,.str e.name,.sl e.nl (d2K e.args)]:=by
 cases e;rfl
theorem d2N (l:List Exp):(d2K l).length=l.length:=by rw[d2L,h2O]
theorem d2O (l:List Exp) (i:Nat):(d2K l)[i]?=l[i]?.map tEx:=by rw[d2L,h2D]
inductive St where
 |mk (kind:Int) (name:Nm) (typed:Bool) (ty:Ty) (ex:Exp) (lo hi:Int) (nl:Bool) (body:List St)
instance:Inhabited St:=⟨.mk 0 [] false zTy default 0 0 true []⟩
def St.kind:St→Int|.mk k _ _ _ _ _ _ _ _=>k
def St.name:St→Nm|.mk _ n _ _ _ _ _ _ _=>n
def St.typed:St→Bool|.mk _ _ b _ _ _ _ _ _=>b
def St.ty:St→Ty|.mk _ _ _ t _ _ _ _ _=>t
def St.ex:St→Exp|.mk _ _ _ _ e _ _ _ _=>e
def St.lo:St→Int|.mk _ _ _ _ _ l _ _ _=>l
def St.hi:St→Int|.mk _ _ _ _ _ _ h _ _=>h
def St.nl:St→Bool|.mk _ _ _ _ _ _ _ b _=>b
def St.body:St→List St|.mk _ _ _ _ _ _ _ _ l=>l
theorem St.ind {p:St→Prop} (h:∀ s:St,(∀ a,a∈s.body→p a)→p s):∀ s,p s:=by
 intro s
 refine St.rec (motive_1:=p) (motive_2:=fun l=>∀ a,a∈l→p a) ?_ ?_ ?_ s
 ·intro k n b t e lo hi nl l ih
  exact h (.mk k n b t e lo hi nl l) ih
 ·intro a ha;cases ha
 ·intro x l hx hl a ha
  rcases h2X.1 ha with e|e
  ·subst e;exact hx
  ·exact hl a e
mutual
def tSt:St→List T
 |.mk k n b t e lo hi nl l=>[.int .i64 k,.str n,.bool b,.int .i64 t.kind,.int .i64 t.bits,.int .i64 t.len,.int .i64 e.op,.int .u64 e.val,.str e.name,.sl e.nl (d2K e.args),.int .i64 lo,.int .i64 hi,.sl nl (d2P l)]
def d2P:List St→List (List T)
 |[]=>[]
 |e::r=>tSt e::d2P r
end
theorem d2Q (l:List St):d2P l=l.map tSt:=by
 induction l with
 |nil=>rfl
 |cons e r ih=>rw[d2P,ih];rfl
theorem d2R (s:St):tSt s=[.int .i64 s.kind,.str s.name,.bool s.typed,.int .i64 s.ty.kind,.int .i64 s.ty.bits,.int .i64 s.ty.len,.int .i64 s.ex.op,.int .u64 s.ex.val,.str s.ex.name,.sl s.ex.nl (d2K s.ex.args),.int .i64 s.lo,.int .i64 s.hi,.sl s.nl (d2P s.body)]:=by
 cases s;rfl
theorem d2S (l:List St):(d2P l).length=l.length:=by rw[d2Q,h2O]
theorem d2T (l:List St) (i:Nat):(d2P l)[i]?=l[i]?.map tSt:=by rw[d2Q,h2D]
structure Pa where
 name:Nm
 ty:Ty
abbrev tPa (p:Pa):List T:=[.str p.name,.int .i64 p.ty.kind,.int .i64 p.ty.bits,.int .i64 p.ty.len]
structure Fu where
 name:Nm
 pnl:Bool
 params:List Pa
 res:Ty
 bnl:Bool
 body:List St
 ret:Exp
abbrev tFu (f:Fu):List T:=[.str f.name,.sl f.pnl (f.params.map tPa),.int .i64 f.res.kind,.int .i64 f.res.bits,.int .i64 f.res.len,.sl f.bnl (d2P f.body),.int .i64 f.ret.op,.int .u64 f.ret.val,.str f.ret.name,.sl f.ret.nl (d2K f.ret.args)]
structure De where
 pub:Bool
 name:Nm
 ty:Ty
abbrev tDe (d:De):List T:=[.bool d.pub,.str d.name,.int .i64 d.ty.kind,.int .i64 d.ty.bits,.int .i64 d.ty.len]
structure Pg where
 fnl:Bool
 funcs:List Fu
 dnl:Bool
 decls:List De
 bnl:Bool
 body:List St
abbrev tPg (p:Pg):List T:=[.sl p.fnl (p.funcs.map tFu),.sl p.dnl (p.decls.map tDe),.sl p.bnl (d2P p.body)]
abbrev B47:Nat:=140737488355328
def I64 (n:Int):Prop:=-9223372036854775808≤n∧n≤9223372036854775807
def U64 (n:Int):Prop:=0≤n∧n≤18446744073709551615
def d2U (t:Ty):Prop:=I64 t.kind∧I64 t.bits∧I64 t.len
inductive ExpOk:Exp→Prop where
 |mk (e:Exp) (h1:I64 e.op) (h2:U64 e.val) (h3:e.name.length≤B47) (h4:e.args.length≤B47) (h5:e.nl=true→e.args=[]) (h:∀ a,a∈e.args→ExpOk a):ExpOk e
inductive StOk:St→Prop where
 |mk (s:St) (h1:I64 s.kind) (h2:s.name.length≤B47) (h3:d2U s.ty) (h4:ExpOk s.ex) (h5:I64 s.lo) (h6:I64 s.hi) (h7:s.body.length≤B47) (h8:s.nl=true→s.body=[]) (h:∀ a,a∈s.body→StOk a):StOk s
def d2V (p:Pa):Prop:=p.name.length≤B47∧d2U p.ty
structure FuOk (f:Fu):Prop where
 name:f.name.length≤B47
 pl:f.params.length≤B47
 pn:f.pnl=true→f.params=[]
 pa:∀ p,p∈f.params→d2V p
 res:d2U f.res
 bl:f.body.length≤B47
 bn:f.bnl=true→f.body=[]
 bo:∀ s,s∈f.body→StOk s
 ret:ExpOk f.ret
def d2W (d:De):Prop:=d.name.length≤B47∧d2U d.ty
structure PgOk (p:Pg):Prop where
 fl:p.funcs.length≤B47
 fn:p.fnl=true→p.funcs=[]
 fo:∀ f,f∈p.funcs→FuOk f
 dl:p.decls.length≤B47
 dn:p.dnl=true→p.decls=[]
 dok:∀ d,d∈p.decls→d2W d
 bl:p.body.length≤B47
 bn:p.bnl=true→p.body=[]
 bo:∀ s,s∈p.body→StOk s
section
variable {env:Nat→List CT} {x s:Nat}
end
end Go.Ky

/- KX 6: valid programs, the checker of types, the steps, in plain words. No program in sight. -/
namespace Go.Ky
open Go.Pi Go.Lx
abbrev B20:Nat:=1100000
def szE (e:Exp):Nat:=b4M (tEx e)
def d2X (l:List Exp):Nat:=b4L (d2K l)
def szS (s:St):Nat:=b4M (tSt s)
def d2Y (l:List St):Nat:=b4L (d2P l)
theorem d2Z (e:Exp):szE e=4+e.name.length+d2X e.args:=by
 unfold szE d2X
 rw[d2M]
 simp only[b4M,tBk]
 omega
theorem d3A (e:Exp) (r:List Exp):d2X (e::r)=szE e+d2X r:=rfl
theorem d3B (s:St):szS s=13+s.name.length+s.ex.name.length+d2X s.ex.args+d2Y s.body:=by
 unfold szS d2Y d2X
 rw[d2R]
 simp only[b4M,tBk]
 omega
theorem d3C (e:St) (r:List St):d2Y (e::r)=szS e+d2Y r:=rfl
theorem d3D {l:List Exp} {e:Exp} (h:e∈l):szE e≤d2X l:=by
 induction l with
 |nil=>cases h
 |cons x r ih =>
  rw[d3A]
  rcases h2X.1 h with e|e
  ·subst e;omega
  ·have:=ih e;omega
theorem d3E {l:List St} {e:St} (h:e∈l):szS e≤d2Y l:=by
 induction l with
 |nil=>cases h
 |cons x r ih =>
  rw[d3C]
  rcases h2X.1 h with e|e
  ·subst e;omega
  ·have:=ih e;omega
theorem d3F (l:List Exp):l.length≤d2X l:=by
 induction l with
 |nil=>exact h4D _
 |cons x r ih=>rw[d3A,d2Z,h2M];omega
theorem d3G (l:List St):l.length≤d2Y l:=by
 induction l with
 |nil=>exact h4D _
 |cons x r ih=>rw[d3C,d3B,h2M];omega
theorem d3H (s:St):szE s.ex≤szS s:=by rw[d3B,d2Z];omega
def d3I:List UInt8→Bool
 |[]=>false
 |c::r=>decide ((c::r).length≤24)&&d0L c&&decide (d0P d0N (c::r)=(c::r).length)&&!keywords.contains (c::r)
def tyB (t:Ty):Bool :=
 if t.len < 0∨64 < t.len then false else if t.kind=1∨t.kind=2 then decide (t.bits=0) else if t.kind=3 then decide (1≤t.bits)&&decide (t.bits≤62) else false
def opB (op n v:Int) (nm:Nm):Bool :=
 if op=1 then decide (n=0)&&decide (nm=[])
 else if op=2 then decide (n=0)&&decide (v=0)&&d3I nm
 else if op=3∨op=4 then decide (n=0)&&decide (v=0)&&decide (nm=[])
 else if op=5 then decide (v=0)&&d3I nm
 else if op=6 then decide (1≤n)&&decide (nm=[])
 else if op=7 then decide (1≤n)&&decide (v=0)&&decide (nm=[])
 else if op=9∨op=10 then decide (n=1)&&decide (v=0)&&decide (nm=[])
 else if op=20 then decide (n=3)&&decide (v=0)&&decide (nm=[])
 else if op=8∨op=11∨op=12∨op=13∨op=14∨op=15∨op=16∨op=17∨op=18∨op=19 then decide (n=2)&&decide (v=0)&&decide (nm=[])
 else false
mutual
def exB:Exp→Bool
 |.mk o v n _ l=>d3J l&&opB o (l.length:Int) v n
def d3J:List Exp→Bool
 |[]=>true
 |e::r=>exB e&&d3J r
end
theorem d3K (l:List Exp):d3J l=l.all exB:=by
 induction l with
 |nil=>rfl
 |cons e r ih=>rw[d3J,ih];rfl
theorem d3L (e:Exp):exB e=(e.args.all exB&&opB e.op (e.args.length:Int) e.val e.name):=by
 cases e
 rw[exB,d3K];rfl
def d3M (e:Exp):Bool:=decide (e.op=0)&&decide (e.val=0)&&decide (e.name=[])&&decide ((e.args.length:Int)=0)
def d3N (n:Int):Bool:=decide (0≤n)&&decide (n≤1000000)
def d3O (s:St):Bool:=!s.typed&&decide (s.ty=zTy)
mutual
def stB:St→Bool
 |.mk k n b t e lo hi _ l =>
  if k=1 then !(!b&&!decide (t=zTy) || b&&!tyB t)&&d3I n&&exB e&&decide (lo=0)&&decide (hi=0)&&decide ((l.length:Int)=0)
  else if k=2 then decide (n=[])&&(!b&&decide (t=zTy))&&exB e&&decide (lo=0)&&decide (hi=0)&&decide ((l.length:Int)=0)
  else if k=3 then d3I n&&(!b&&decide (t=zTy))&&d3M e&&d3N lo&&d3N hi&&d3P l
  else false
def d3P:List St→Bool
 |[]=>true
 |s::r=>stB s&&d3P r
end
theorem d3Q (l:List St):d3P l=l.all stB:=by
 induction l with
 |nil=>rfl
 |cons e r ih=>rw[d3P,ih];rfl
theorem d3R (s:St):stB s=if s.kind=1 then !(!s.typed&&!decide (s.ty=zTy) || s.typed&&!tyB s.ty)&&d3I s.name&&exB s.ex&&decide (s.lo=0)&&decide (s.hi=0)&&decide ((s.body.length:Int)=0)
  else if s.kind=2 then decide (s.name=[])&&d3O s&&exB s.ex&&decide (s.lo=0)&&decide (s.hi=0)&&decide ((s.body.length:Int)=0)
  else if s.kind=3 then d3I s.name&&d3O s&&d3M s.ex&&d3N s.lo&&d3N s.hi&&s.body.all stB
  else false:=by
 cases s
 rw[stB,d3Q];rfl
def paB (p:Pa):Bool:=d3I p.name&&tyB p.ty
def deB (d:De):Bool:=d3I d.name&&tyB d.ty
def fuB (f:Fu):Bool:=d3I f.name&&f.params.all paB&&tyB f.res&&f.body.all stB&&exB f.ret
mutual
def dEx:Exp→Nat
 |.mk _ _ _ _ l=>d3S l+1
def d3S:List Exp→Nat
 |[]=>0
 |e::r=>max (dEx e) (d3S r)
end
mutual
def dSt:St→Nat
 |.mk _ _ _ _ _ _ _ _ l=>d3T l+1
def d3T:List St→Nat
 |[]=>0
 |e::r=>max (dSt e) (d3T r)
end
theorem d3U (e:Exp):dEx e=d3S e.args+1:=by cases e;rfl
theorem d3V (s:St):dSt s=d3T s.body+1:=by cases s;rfl
theorem d3W:∀ e:Exp,dEx e≤szE e:=by
 refine Exp.ind fun e ih=>?_
 rw[d3U,d2Z]
 have:∀ l:List Exp,(∀ a,a∈l→dEx a≤szE a)→d3S l≤d2X l:=by
  intro l
  induction l with
  |nil=>intro _;exact h4D _
  |cons x r ihr =>
   intro h
   have h1:=h x (by simp)
   have h2:=ihr fun a ha=>h a (by simp [ha])
   rw[d3S,d3A]
   omega
 have:=this e.args ih
 omega
theorem d3X:∀ e:St,dSt e≤szS e:=by
 refine St.ind fun e ih=>?_
 rw[d3V,d3B]
 have:∀ l:List St,(∀ a,a∈l→dSt a≤szS a)→d3T l≤d2Y l:=by
  intro l
  induction l with
  |nil=>intro _;exact h4D _
  |cons x r ihr =>
   intro h
   have h1:=h x (by simp)
   have h2:=ihr fun a ha=>h a (by simp [ha])
   rw[d3T,d3C]
   omega
 have:=this e.body ih
 omega
def shE (e:Exp):Bool:=decide ((dEx e:Int)≤40)
mutual
def shS:St→Bool
 |.mk k n b t e lo hi nl l=>decide ((dSt (.mk k n b t e lo hi nl l):Int)≤40)&&shE e&&d3Y l
def d3Y:List St→Bool
 |[]=>true
 |s::r=>shS s&&d3Y r
end
theorem d3Z (l:List St):d3Y l=l.all shS:=by
 induction l with
 |nil=>rfl
 |cons e r ih=>rw[d3Y,ih];rfl
theorem d4A (s:St):shS s=(decide ((dSt s:Int)≤40)&&shE s.ex&&s.body.all shS):=by
 cases s
 rw[shS,d3Z];rfl
def shF (f:Fu):Bool:=f.body.all shS&&shE f.ret
def d4B (p:Pg):Int :=
 if (p.funcs.all fuB&&p.decls.all deB&&p.body.all stB)=false then 1 else if (p.funcs.all shF&&p.body.all shS)=false then 3 else 0
structure Sy where
 typ:Ty
 loop:Bool
 low:Int
 high:Int
abbrev Ns:=List (Nm×Sy)
abbrev Fs:=List (Nm×Fu)
def d4C {α:Type} (k:Nm):List (Nm×α)→Option α
 |[]=>none
 |(j,x)::r=>if k=j then some x else d4C k r
abbrev tSy (s:Sy):List T:=[.int .i64 s.typ.kind,.int .i64 s.typ.bits,.int .i64 s.typ.len,.bool s.loop,.int .i64 s.low,.int .i64 s.high]
def d4D (t u:Ty):Bool:=if t.len≠u.len then false else if u.kind=1 then true else decide (t.kind=u.kind)&&decide (t.bits≤u.bits)
def lenZ (x:Int):Int:=if x=0 then 0 else (x.toNat.log2:Int)+1
def numT (n:Int):Ty:=if 4611686018427387904≤n then d2I else ⟨3,if lenZ n > 1 then lenZ n else 1,0⟩
def d4E (t:Ty):Bool:=decide (t.len=0)
def isBo (t:Ty):Bool:=decide (t=d2J)
abbrev Rt:=Ty×Int
def bad (e:Int):Rt:=(zTy,e)
def d4F (p:Ty→Bool) (l:List Ty) (r:Ty):Rt:=if l.all p then (r,0) else bad 6
def d4G:List Ty→List Pa→Bool
 |t::r,p::ps=>d4D t p.ty&&d4G r ps
 |_,_=>true
def d4H (fs:Fs) (nm:Nm) (l:List Ty):Rt :=
 match d4C nm fs with
 |none=>bad 4
 |some f=>if (l.length:Int)≠(f.params.length:Int) then bad 6 else if d4G l f.params then (f.res,0) else bad 6
def d4I (a:Ty):List Ty→Ty→Option Ty
 |[],r=>some r
 |t::l,r=>if t.len≠0 then none else if t≠a then d4I a l d2I else d4I a l r
def d4J (l:List Ty):Rt :=
 match l with
 |[]=>bad 99
 |a::_=>match d4I a l a with
  |none=>bad 6
  |some r=>(⟨r.kind,r.bits,(l.length:Int)⟩,0)
def d4K (c x y:Ty):Rt:=if isBo c=false then bad 6 else if x=y then (x,0) else if d4E x&&d4E y then (d2I,0) else bad 6
def mx (x y:Int):Int:=if y > x then y else x
def d4L (x y:Ty) (w:Int):Rt×Int :=
 if x.kind≠3∨y.kind≠3∨x.len≠0∨y.len≠0 then (bad 6,w) else ((d2J,0),mx w (IntKind.i64.wrap (mx x.bits y.bits+1)))
def posM (ns:Ns) (e:Exp) (len:Int):Bool×Int :=
 let most:=IntKind.u64.wrap len
 if e.op=1 then (decide (e.val < most),0)
 else
  let two:=e.op=12∨e.op=13
  let nm:=if two then e.args.getD 0 default else e
  let off:=if two then (e.args.getD 1 default).val else 0
  if two∧(e.args.getD 1 default).op≠1 then (false,6)
  else if nm.op≠2 then (false,6)
  else match d4C nm.name ns with
   |none=>(false,4)
   |some s=>if s.loop=false then (false,6) else if s.low=s.high then (true,0) else
    let first:=IntKind.u64.wrap s.low
    let last:=IntKind.u64.wrap (IntKind.i64.wrap (s.high - 1))
    if e.op=13 then (decide (off≤first)&&decide (IntKind.u64.wrap (last - off) < most),0)
    else (decide (off < most)&&decide (IntKind.u64.wrap (last+off) < most),0)
def opM (fs:Fs) (ns:Ns) (op val:Int) (nm:Nm) (l:List Ty) (w:Int):Rt×Int :=
 if op=1 then ((numT val,0),w)
 else if op=3∨op=4 then ((d2J,0),w)
 else if op=2 then ((match d4C nm ns with|none=>bad 4|some s=>(s.typ,0)),w)
 else if op=5 then (d4H fs nm l,w)
 else if op=6 then (if 65536≤val then bad 8 else d4F d4E l d2I,w)
 else if op=7 then (d4J l,w)
 else if op=20 then (d4K (l.getD 0 zTy) (l.getD 1 zTy) (l.getD 2 zTy),w)
 else if op=14∨op=15 then (d4F d4E l d2J,w)
 else if op=16∨op=17 then d4L (l.getD 0 zTy) (l.getD 1 zTy) w
 else if op=10∨op=18∨op=19 then (d4F isBo l d2J,w)
 else (d4F d4E l d2I,w)
def idxM (ns:Ns) (r:Rt×Int) (b:Exp):Rt×Int :=
 if r.1.2≠0 then (bad r.1.2,r.2)
 else
  let q:=posM ns b r.1.1.len
  if q.2≠0 then (bad q.2,r.2) else if r.1.1.len=0 then (bad 6,r.2) else if q.1=false then (bad 8,r.2) else ((⟨r.1.1.kind,r.1.1.bits,0⟩,0),r.2)
mutual
def exM (fs:Fs) (ns:Ns):Exp→Int→Rt×Int
 |.mk op val nm _ l,w =>
  if op=8 then (match l with
   |a::b::_=>idxM ns (exM fs ns a w) b
   |_=>(bad 99,w))
  else
   let q:=exsM fs ns l w
   if q.1.2≠0 then (bad q.1.2,q.2) else opM fs ns op val nm q.1.1 q.2
def exsM (fs:Fs) (ns:Ns):List Exp→Int→(List Ty×Int)×Int
 |[],w=>(([],0),w)
 |a::r,w =>
  let q:=exM fs ns a w
  if q.1.2≠0 then (([],q.1.2),q.2) else
   let q2:=exsM fs ns r q.2
   if q2.1.2≠0 then (([],q2.1.2),q2.2) else ((q.1.1::q2.1.1,0),q2.2)
end
abbrev Rs:=Int×Ns×Int
def d4M (nm:Nm) (s:Sy) (ns:Ns) (w:Int):Rs:=match d4C nm ns with
 |some _=>(5,ns,w)
 |none=>(0,ns++[(nm,s)],w)
def d4N (t:Ty) (w:Int):Int:=if t.kind=3 then mx w t.bits else w
mutual
def stM (fs:Fs):St→Ns→Int→Rs
 |.mk k nm typed ty e lo hi _ l,ns,w =>
  if k=3 then (if lo > hi then (8,ns,w) else match d4M nm ⟨d2I,true,lo,hi⟩ ns w with
   |(d,ns1,w1)=>if d≠0 then (d,ns1,w1) else match stsM fs l ns1 w1 with
    |(d2,ns2,w2)=>if d2≠0 then (d2,ns2,w2) else (0,ns,w2))
  else
   let q:=exM fs ns e w
   if q.1.2≠0 then (q.1.2,ns,q.2)
   else if k=2 then (if q.1.1≠d2J then 6 else 0,ns,q.2)
   else if typed then (if (ty.len=0∧q.1.1.len≠0)∨(ty.len≠0∧d4D q.1.1 ty=false) then (6,ns,q.2) else d4M nm ⟨ty,false,0,0⟩ ns (d4N ty q.2))
   else d4M nm ⟨q.1.1,false,0,0⟩ ns q.2
def stsM (fs:Fs):List St→Ns→Int→Rs
 |[],ns,w=>(0,ns,w)
 |s::r,ns,w=>match stM fs s ns w with
  |(d,ns1,w1)=>if d≠0 then (d,ns1,w1) else stsM fs r ns1 w1
end
def mn (x y:Int):Int:=if y < x then y else x
abbrev Ks:=List (Nm×Int)
def d4O (k:Nm) (l:Ks):Int:=(d4C k l).getD 0
mutual
def csE (ks:Ks):Exp→Int
 |.mk op _ nm _ l=>mn 20001 (csEs ks l (if op=5 then 1+d4O nm ks else 0))
def csEs (ks:Ks):List Exp→Int→Int
 |[],n=>n
 |e::r,n=>csEs ks r (mn 20001 (n+csE ks e))
end
mutual
def bsS (ks:Ks):St→Int
 |.mk k _ _ _ e lo hi _ l=>if k=3 then (hi - lo) * bsSs ks l 0 else 1+csE ks e
def bsSs (ks:Ks):List St→Int→Int
 |[],n=>n
 |s::r,n=>bsSs ks r (mn (n+bsS ks s) 20001)
end
end Go.Ky

/- KX 7: stores that grow; maps with names for keys; slices of types. -/
namespace Go.Ky
open Go.Pi Go.Lx
def Grow (sg sg':Sg):Prop:=∃ r,sg'=sg++r
theorem Grow.refl (sg:Sg):Grow sg sg:=⟨[],by simp⟩
theorem Grow.trans {a b c:Sg} (h:Grow a b) (h':Grow b c):Grow a c:=by
 obtain⟨r,rfl⟩:=h
 obtain⟨r',rfl⟩:=h'
 exact⟨r++r',by rw[h1H]⟩
theorem Grow.app (sg r:Sg):Grow sg (sg++r):=⟨r,rfl⟩
theorem Grow.get {sg sg':Sg} (h:Grow sg sg') {i:Nat} {x:Bool×List PV} (hi:sg[i]?=some x):sg'[i]?=some x:=by
 obtain⟨r,rfl⟩:=h
 exact b1J hi
theorem Grow.len {sg sg':Sg} (h:Grow sg sg'):sg.length≤sg'.length:=by
 obtain⟨r,rfl⟩:=h
 simp
def Fr (c:Nat) (sg sg':Sg):Prop:=sg.length≤sg'.length∧∀ i,i < sg.length→i≠c→sg'[i]?=sg[i]?
theorem Fr.refl (c:Nat) (sg:Sg):Fr c sg sg:=⟨h3V _,fun _ _ _=>rfl⟩
theorem Fr.trans {c:Nat} {a b d:Sg} (h:Fr c a b) (h':Fr c b d):Fr c a d :=
 ⟨h3W h.1 h'.1,fun i hi hc=>(h'.2 i (h3X hi h.1) hc).trans (h.2 i hi hc)⟩
theorem Fr.of {c:Nat} {a b:Sg} (h:Grow a b):Fr c a b:=by
 obtain⟨r,rfl⟩:=h
 exact⟨by simp,fun i hi _=>h1W hi⟩
theorem Fr.get {c:Nat} {a b:Sg} (h:Fr c a b) {i:Nat} {x:Bool×List PV} (hi:a[i]?=some x) (hc:i≠c):b[i]?=some x:=by
 rw[h.2 i (h2C.1 hi).1 hc];exact hi
theorem Fr.set {c:Nat} {a b:Sg} (h:Fr c a b) (x:Bool×List PV):Fr c a (b.set c x):=by
 refine⟨by simpa using h.1,fun i hi hc=>?_⟩
 rw[h2G (fun e=>hc e.symm)]
 exact h.2 i hi hc
theorem d4P {sg:Sg} {i:Nat} {x y:Bool×List PV} (h:sg[i]?=some x):(sg.set i y)[i]?=some y :=
 h2H (h2C.1 h).1
theorem d4Q {sg:Sg} {i:Nat} {x:Bool×List PV} (h:sg[i]?=some x):i < sg.length:=(h2C.1 h).1
def ents {α:Type} (enc:α→T) (l:List (Nm×α)):List PV:=l.map fun p=>.tup [.t (.str p.1),.t (enc p.2)]
theorem d4R (s:Ty) (a b c:Int):(s.kind == a&&(s.bits == b&&s.len == c))=decide (s=⟨a,b,c⟩):=by
 cases s
 simp only[Ty.mk.injEq]
 rw[Bool.eq_iff_iff]
 simp
def SlT (sg:Sg) (v:PV) (ts:List Ty):Prop :=
 (ts=[]∧∃ k,v=.own k 3 [])∨∃ a cs,v=.ls a 0 ts.length 3∧sg[a]?=some (false,cs)∧cs.length=ts.length * 3∧∀ i t,ts[i]?=some t→(cs.drop (i * 3)).take 3=[.t (.int .i64 t.kind),.t (.int .i64 t.bits),.t (.int .i64 t.len)]
theorem SlT.grow {sg sg':Sg} {v:PV} {ts:List Ty} (h:SlT sg v ts) (hg:Grow sg sg'):SlT sg' v ts:=by
 rcases h with h|⟨a,cs,h1,h2,h3⟩
 ·exact .inl h
 ·exact .inr ⟨a,cs,h1,hg.get h2,h3⟩
theorem SlT.len {sg:Sg} {v:PV} {ts:List Ty} (h:SlT sg v ts):lenP false v=some ts.length:=by
 rcases h with⟨rfl,k,rfl⟩|⟨a,cs,rfl,_⟩
 ·rfl
 ·rfl
theorem d4S {i n:Nat} (h:i < n) (hn:n≤281474976710656):IntKind.wrap .i64 ((i:Int)+1)=((i+1:Nat):Int):=by rw[IntWalk.i64_in _ (by omega)];omega
end Go.Ky

/- KX 8: the checker's store. -/
namespace Go.Ky
open Go.Pi Go.Lx
theorem d4T {sg sg':Sg} (h:∀ i:Nat,i < sg.length→sg'[i]?=sg[i]?):Grow sg sg':=by
 refine⟨sg'.drop sg.length,?_⟩
 apply List.ext_getElem?
 intro i
 rcases h3Y i sg.length with hi|hi
 ·rw[h1W hi,h i hi]
 ·rw[h1X hi,h1Z]
  congr 1
  omega
theorem Fr.grow {b:Nat} {sg sg0 sg':Sg} (hg:Grow sg sg0) (h:Fr b sg0 sg') (hb:sg.length≤b):Grow sg sg':=by
 refine d4T fun i hi=>?_
 rw[h.2 i (h3X hi hg.len) (by omega)]
 obtain⟨r,rfl⟩:=hg
 exact h1W hi
theorem d4U {sg:Sg} {i:Nat} {x:Bool×List PV} (h:sg[i]?=some x):sg.set i x=sg:=by
 apply List.ext_getElem?
 intro j
 by_cases hj:i=j
 ·subst hj
  rw[h2H (d4Q h),h]
 ·rw[h2G hj]
structure Ck (sg:Sg) (c f n:Nat) (fs:Fs) (ns:Ns) (od:PV) (w:Int):Prop where
 c:sg[c]?=some (false,[.mp f,.mp n,od,.t (.int .i64 w)])
 f:sg[f]?=some (true,ents (fun x=>.agg (tFu x)) fs)
 n:sg[n]?=some (true,ents (fun x=>.agg (tSy x)) ns)
theorem Ck.fc {sg:Sg} {c f n:Nat} {fs:Fs} {ns:Ns} {od:PV} {w:Int} (h:Ck sg c f n fs ns od w):f≠c:=fun e=>by
 have h1:=h.c
 have h2:=h.f
 rw[e,h1] at h2
 injection h2 with h2
 injection h2 with h2 _
 cases h2
theorem Ck.nc {sg:Sg} {c f n:Nat} {fs:Fs} {ns:Ns} {od:PV} {w:Int} (h:Ck sg c f n fs ns od w):n≠c:=fun e=>by
 have h1:=h.c
 have h2:=h.n
 rw[e,h1] at h2
 injection h2 with h2
 injection h2 with h2 _
 cases h2
theorem Ck.grow {sg sg':Sg} {c f n:Nat} {fs:Fs} {ns:Ns} {od:PV} {w:Int} (h:Ck sg c f n fs ns od w) (hg:Grow sg sg'):Ck sg' c f n fs ns od w:=⟨hg.get h.c,hg.get h.f,hg.get h.n⟩
theorem Ck.fr {sg sg':Sg} {c f n:Nat} {fs:Fs} {ns:Ns} {od:PV} {w w':Int} (h:Ck sg c f n fs ns od w) (hr:Fr c sg sg') (hc:sg'[c]?=some (false,[.mp f,.mp n,od,.t (.int .i64 w')])):Ck sg' c f n fs ns od w':=⟨hc,hr.get h.f h.fc,hr.get h.n h.nc⟩
theorem d4V {sg:Sg} {c:Nat} (h:c < sg.length) (r:Sg):(sg++r)[c]?=sg[c]?:=h1W h
theorem d4W {sg:Sg} {c:Nat} (h:c < sg.length) (r:Sg) (x:Bool×List PV):(sg++r).set c x=sg.set c x++r:=List.set_append_left _ _ h
theorem gs0 {sg r:Sg} {c:Nat} {x:Bool×List PV}:(sg.set c x++r)[sg.length]?=r[0]?:=by
 have:=@b8U _ (sg.set c x) r
 rw[h2Q] at this
 exact this
theorem gsk {sg r:Sg} {c k:Nat} {x:Bool×List PV}:(sg.set c x++r)[sg.length+k]?=r[k]?:=by
 have:=@b8V _ (sg.set c x) r k
 rw[h2Q] at this
 exact this
theorem ss0 {sg r:Sg} {c:Nat} {x y:Bool×List PV}:(sg.set c x++r).set sg.length y=sg.set c x++r.set 0 y:=by
 have:=@b8W _ (sg.set c x) r y
 rw[h2Q] at this
 exact this
theorem ssk {sg r:Sg} {c k:Nat} {x y:Bool×List PV}:(sg.set c x++r).set (sg.length+k) y=sg.set c x++r.set k y:=by
 have:=@b8X _ (sg.set c x) r y k
 rw[h2Q] at this
 exact this
theorem gsc {sg r:Sg} {c:Nat} {x:Bool×List PV} (h:c < sg.length):(sg.set c x++r)[c]?=some x:=by
 rw[h1W (by simpa using h),h2H h]
theorem Fr.setapp (c:Nat) (sg:Sg) (x:Bool×List PV) (r:Sg):Fr c sg (sg.set c x++r):=by
 refine⟨by simp,fun i hi hc=>?_⟩
 rw[h1W (by simpa using hi),h2G (fun e=>hc e.symm)]
theorem Fr.app {c:Nat} {sg sg':Sg} (h:Fr c sg sg') (r:Sg):Fr c sg (sg'++r):=h.trans (Fr.of (.app _ _))
end Go.Ky

/- KX 9: what a region a1G; three cells of a row. -/
namespace Go.Ky
open Go.Pi Go.Lx
noncomputable def d4X (a b:Option (Bool×List PV)):Option Unit:=@ite _ (a=b) (Classical.propDecidable _) (some ()) none
theorem d4Y (a:Option (Bool×List PV)):d4X a a=some ():=by unfold d4X;simp
noncomputable def d4Z (sg sg':Sg):PV→Option Unit
 |.lp id _=>d4X sg'[id]? sg[id]?
 |_=>none
theorem d5A {fr:List PV} {sg sg':Sg}:b6H fr [] sg sg'=some ():=b6I (fun k h=>by cases h)
theorem d5B {fr:List PV} {k:Nat} {ks:List Nat} {sg sg':Sg}:b6H fr (k::ks) sg sg'=(d4Z sg sg' (a0A fr k)).bind fun _=>b6H fr ks sg sg':=by
 by_cases h:a1G fr (k::ks) sg sg'
 ·rw[b6I h]
  obtain⟨id,off,h1,h2⟩:=h k (by simp)
  rw[h1]
  simp only[d4Z,h2,d4Y,Option.bind_some]
  rw[b6I (fun j hj=>h j (by simp [hj]))]
 ·have hn:b6H fr (k::ks) sg sg'=none:=by
   unfold b6H
   rw[if_neg (fun e=>h (keepsB_iff.1 e))]
  rw[hn]
  cases hk:d4Z sg sg' (a0A fr k) with
  |none=>rfl
  |some u =>
   simp only[Option.bind_some]
   by_cases h2:a1G fr ks sg sg'
   ·exfalso
    apply h
    intro j hj
    rcases h2X.1 hj with e|e
    ·subst e
     cases hv:a0A fr j <;> rw[hv] at hk <;> simp only[d4Z,reduceCtorEq] at hk
     rename_i id off
     refine⟨id,off,rfl,?_⟩
     unfold d4X at hk
     by_cases he:sg'[id]?=sg[id]?
     ·exact he
     ·simp [he] at hk
    ·exact h2 j e
   ·unfold b6H
    rw[if_neg (fun e=>h2 (keepsB_iff.1 e))]
def Fr2 (c a:Nat) (sg sg':Sg):Prop:=sg.length≤sg'.length∧∀ i,i < sg.length→i≠c→i≠a→sg'[i]?=sg[i]?
theorem Fr2.refl (c a:Nat) (sg:Sg):Fr2 c a sg sg:=⟨h3V _,fun _ _ _ _=>rfl⟩
theorem Fr2.trans {c a:Nat} {x y z:Sg} (h:Fr2 c a x y) (h':Fr2 c a y z):Fr2 c a x z :=
 ⟨h3W h.1 h'.1,fun i hi hc ha=>(h'.2 i (h3X hi h.1) hc ha).trans (h.2 i hi hc ha)⟩
theorem Fr2.of {c a:Nat} {x y:Sg} (h:Fr c x y):Fr2 c a x y:=⟨h.1,fun i hi hc _=>h.2 i hi hc⟩
theorem Fr2.get {c a:Nat} {x y:Sg} (h:Fr2 c a x y) {i:Nat} {v:Bool×List PV} (hi:x[i]?=some v) (hc:i≠c) (ha:i≠a):y[i]?=some v:=by
 rw[h.2 i (d4Q hi) hc ha];exact hi
theorem Fr2.set {c a:Nat} {x y:Sg} (h:Fr2 c a x y) (v:Bool×List PV):Fr2 c a x (y.set a v):=by
 refine⟨by simpa using h.1,fun i hi hc ha=>?_⟩
 rw[h2G (fun e=>ha e.symm)]
 exact h.2 i hi hc ha
theorem Fr2.fr {c a:Nat} {sg x y:Sg} (hg:Fr c sg x) (h:Fr2 c a x y) (ha:sg.length≤a):Fr c sg y :=
 ⟨h3W hg.1 h.1,fun i hi hc=>(h.2 i (h3X hi hg.1) hc (by omega)).trans (hg.2 i hi hc)⟩
end Go.Ky

/- KX 30: the parser in plain words. No program in sight. -/
namespace Go.Ky
open Go.Pi Go.Lx
structure Ps where
 ts:List Tok
 err:Int
 pos:Int
 deep:Bool
 dat:Int
def d5C:Tok:=⟨0,[],0,0⟩
def Ps.hd (s:Ps):Tok:=s.ts.headD d5C
def d5D (l:List Tok):List Tok:=l.drop (l.length - 1)
def d5E (e:Int) (s:Ps):Ps:=⟨d5D s.ts,if s.err=0 then e else s.err,if s.err=0 then (s.hd.pos:Int) else s.pos,s.deep,s.dat⟩
def d5F (s:Ps):Ps:={ s with ts:=if 1 < s.ts.length then s.ts.drop 1 else s.ts }
def atM (t:Nm) (s:Ps):Bool:=decide (s.hd.kind≠0)&&decide (s.hd.text=t)
def d5G (t:Nm) (s:Ps):Ps:=if atM t s then d5F s else s
def d5H (t:Nm) (s:Ps):Ps:=if atM t s then d5F s else d5E 2 s
def d5I (s:Ps):Nm×Ps:=if s.hd.kind≠1 then ([],d5E 2 s) else (s.hd.text,d5F s)
def d5J (lo hi:Nat) (s:Ps):Int×Ps:=if s.hd.kind≠3∨s.hd.val < lo then (0,d5E 2 s) else if hi < s.hd.val then (0,d5E 3 s) else (IntKind.i64.wrap (s.hd.val:Int),d5F s)
def d5K (pos:Int) (b:Bool) (s:Ps):Ps:=if b&&!s.deep then { s with deep:=true,dat:=pos } else s
def ops:Nat→List (Nm×Int)
 |0=>[([111,114],19)]
 |1=>[([97,110,100],18)]
 |2=>[([61,61],14),([33,61],15),([60],16),([60,61],17)]
 |3=>[([43],12),([45],13)]
 |4=>[([42],11)]
 |_=>[]
def d5L (s:Ps):List (Nm×Int)→Option Int
 |[]=>none
 |(t,o)::r=>if atM t s then some o else d5L s r
def opL (lv:Nat) (s:Ps):Option Int:=d5L s (ops lv)
def nod (op:Int) (l:List Exp):Exp:=.mk op 0 [] l.isEmpty l
def zEx:Exp:=.mk 0 0 [] true []
mutual
def d5M:Nat→Ps→Exp×Ps
 |0,s=>(zEx,s)
 |n+1,s =>
  if atM [63] (d5N n 0 s).2 then
   (nod 20 [(d5N n 0 s).1,(d5M n (d5F (d5N n 0 s).2)).1,(d5M n (d5H [58] (d5M n (d5F (d5N n 0 s).2)).2)).1],(d5M n (d5H [58] (d5M n (d5F (d5N n 0 s).2)).2)).2)
  else d5N n 0 s
def d5N:Nat→Nat→Ps→Exp×Ps
 |0,_,s=>(zEx,s)
 |n+1,lv,s=>if lv=5 then unM n s else d5O n lv (d5N n (lv+1) s).1 (d5N n (lv+1) s).2
def d5O:Nat→Nat→Exp→Ps→Exp×Ps
 |0,_,e,s=>(e,s)
 |n+1,lv,e,s=>match opL lv s with
  |none=>(e,s)
  |some o=>if lv=2 then (nod o [e,(d5N n (lv+1) (d5F s)).1],(d5N n (lv+1) (d5F s)).2)
   else d5O n lv (nod o [e,(d5N n (lv+1) (d5F s)).1]) (d5N n (lv+1) (d5F s)).2
def unM:Nat→Ps→Exp×Ps
 |0,s=>(zEx,s)
 |n+1,s =>
  if atM [45] s then (nod 9 [(unM n (d5F s)).1],(unM n (d5F s)).2)
  else if atM [110,111,116] s then (nod 10 [(unM n (d5F s)).1],(unM n (d5F s)).2)
  else d5P n (d5Q n s).1 (d5Q n s).2
def d5P:Nat→Exp→Ps→Exp×Ps
 |0,e,s=>(e,s)
 |n+1,e,s=>if atM [91] s then d5P n (nod 8 [e,(d5M n (d5F s)).1]) (d5H [93] (d5M n (d5F s)).2) else (e,s)
def d5Q:Nat→Ps→Exp×Ps
 |0,s=>(zEx,s)
 |n+1,s =>
  if s.hd.kind=3 then (.mk 1 s.hd.val [] true [],d5F s)
  else if s.hd.kind=1 then
   (if atM [40] (d5F s) then (.mk 5 0 s.hd.text (d5R n (d5F (d5F s))).1.isEmpty (d5R n (d5F (d5F s))).1,(d5R n (d5F (d5F s))).2) else (.mk 2 0 s.hd.text true [],d5F s))
  else if atM [116,114,117,101] s then (nod 3 [],d5F s)
  else if atM [102,97,108,115,101] s then (nod 4 [],d5F s)
  else if atM [104,97,115,104] s then d5S n (d5F s)
  else if atM [91] s then (nod 7 (d5T n (d5F s)).1,d5H [93] (d5T n (d5F s)).2)
  else if atM [40] s then ((d5M n (d5F s)).1,d5H [41] (d5M n (d5F s)).2)
  else (zEx,d5E 2 s)
def d5R:Nat→Ps→List Exp×Ps
 |0,s=>([],s)
 |n+1,s=>if atM [41] s then ([],d5F s) else ((d5T n s).1,d5H [41] (d5T n s).2)
def d5S:Nat→Ps→Exp×Ps
 |0,s=>(zEx,s)
 |n+1,s =>
  if (d5H [40] s).hd.kind≠3 then (zEx,d5E 2 (d5H [40] s))
  else (.mk 6 (d5H [40] s).hd.val [] (d5T n (d5H [59] (d5F (d5H [40] s)))).1.isEmpty (d5T n (d5H [59] (d5F (d5H [40] s)))).1,d5H [41] (d5T n (d5H [59] (d5F (d5H [40] s)))).2)
def d5T:Nat→Ps→List Exp×Ps
 |0,s=>([],s)
 |n+1,s=>d5U n [(d5M n s).1] (d5M n s).2
def d5U:Nat→List Exp→Ps→List Exp×Ps
 |0,l,s=>(l,s)
 |n+1,l,s=>if atM [44] s then d5U n (l++[(d5M n (d5F s)).1]) (d5M n (d5F s)).2 else (l,s)
end
def d5V (s:Ps):Ty×Ps :=
 if atM [102,105,101,108,100] s then (⟨1,0,0⟩,d5F s)
 else if atM [98,111,111,108] s then (⟨2,0,0⟩,d5F s)
 else if atM [117,105,110,116] s then (⟨3,(d5J 1 62 (d5F s)).1,0⟩,(d5J 1 62 (d5F s)).2)
 else (⟨0,0,0⟩,d5E 2 s)
def tyM (s:Ps):Ty×Ps :=
 if atM [91] (d5V s).2 then (⟨(d5V s).1.kind,(d5V s).1.bits,(d5J 1 64 (d5F (d5V s).2)).1⟩,d5H [93] (d5J 1 64 (d5F (d5V s).2)).2)
 else d5V s
def d5W (s:Ps):Pa×Ps:=(⟨(d5I s).1,(tyM (d5H [58] (d5I s).2)).1⟩,(tyM (d5H [58] (d5I s).2)).2)
def atS (s:Ps):Bool:=atM [108,101,116] s || (atM [97,115,115,101,114,116] s || atM [102,111,114] s)
def d5X (x:St):Bool:=decide (d4B ⟨true,[],true,[],false,[x]⟩=3)
def d5Y (n:Nat) (s:Ps):St×Ps :=
 let a:=d5I s
 let ty:=if atM [58] a.2 then tyM (d5F a.2) else (zTy,a.2)
 let e:=d5M n (d5H [61] ty.2)
 (.mk 1 a.1 (atM [58] a.2) ty.1 e.1 0 0 true [],d5H [59] e.2)
def d5Z (n:Nat) (s:Ps):St×Ps :=
 let e:=d5M n s
 (.mk 2 [] false zTy e.1 0 0 true [],d5H [59] e.2)
mutual
def d6A:Nat→Ps→St×Ps
 |0,s=>(.mk 0 [] false zTy zEx 0 0 true [],s)
 |n+1,s =>
  if s.hd.text=[108,101,116] then d5Y n (d5F s)
  else if s.hd.text=[97,115,115,101,114,116] then d5Z n (d5F s)
  else if s.hd.text=[102,111,114] then
   (let a:=d5I (d5F s)
    let lo:=d5J 0 1000000 (d5H [105,110] a.2)
    let hi:=d5J 0 1000000 (d5H [46,46] lo.2)
    let b:=d6B n false [] (d5H [123] hi.2)
    (.mk 3 a.1 false zTy zEx lo.1 hi.1 b.1.isEmpty b.1,d5H [125] b.2))
  else (.mk 0 [] false zTy zEx 0 0 true [],d5F s)
def d6B:Nat→Bool→List St→Ps→List St×Ps
 |0,_,l,s=>(l,s)
 |n+1,o,l,s =>
  if atS s then d6B n o (l++[(d6A n s).1]) (if o then d5K s.hd.pos (d5X (d6A n s).1) (d6A n s).2 else (d6A n s).2)
  else (l,s)
end
def d6C:Nat→List Pa→Ps→List Pa×Ps
 |0,l,s=>(l,s)
 |n+1,l,s=>if atM [44] s then d6C n (l++[(d5W (d5F s)).1]) (d5W (d5F s)).2 else (l,s)
def d6D (n:Nat) (s:Ps):List Pa×Ps:=if atM [41] s then ([],s) else d6C n [(d5W s).1] (d5W s).2
def fnM (n:Nat) (s:Ps):Fu×Ps :=
 let a:=d5I (d5H [102,110] s)
 let ps:=d6D n (d5H [40] a.2)
 let ty:=tyM (d5H [58] (d5H [41] ps.2))
 let b:=d6B n true [] (d5H [123] ty.2)
 let e:=d5M n (d5H [114,101,116,117,114,110] b.2)
 (⟨a.1,ps.1.isEmpty,ps.1,ty.1,b.1.isEmpty,b.1,e.1⟩,d5H [125] (d5H [59] (d5K b.2.hd.pos (decide ((dEx e.1:Int) > 40)) e.2)))
def d6E (s:Ps):De×Ps :=
 let a:=d5I (d5F s)
 let ty:=tyM (d5H [58] a.2)
 (⟨decide (s.hd.text=[112,117,98,108,105,99]),a.1,ty.1⟩,d5H [59] ty.2)
def d6F:Nat→List Fu→Ps→List Fu×Ps
 |0,l,s=>(l,s)
 |n+1,l,s=>if atM [102,110] s then d6F n (l++[(fnM n s).1]) (fnM n s).2 else (l,s)
def d6G:Nat→List De→Ps→List De×Ps
 |0,l,s=>(l,s)
 |n+1,l,s=>if atM [112,117,98,108,105,99] s || atM [115,101,99,114,101,116] s then d6G n (l++[(d6E s).1]) (d6E s).2 else (l,s)
def d6H (s:Ps):Ps:=if s.hd.kind≠0 then d5E 2 s else s
def d6I (stop stopAt:Int) (s:Ps):Int×Int :=
 if s.err≠0∧(stop=0∨s.pos < stopAt) then (s.pos,s.err) else if stop≠0 then (stopAt,stop) else if s.deep then (s.dat,3) else (0,0)
def d6J (n:Nat) (s:Ps):Pg×Ps :=
 let f:=d6F n [] s
 let d:=d6G n [] f.2
 let b:=d6B n true [] d.2
 (⟨f.1.isEmpty,f.1,d.1.isEmpty,d.1,b.1.isEmpty,b.1⟩,d6H b.2)
def st0 (l:List Tok):Ps:=⟨l,0,0,false,0⟩
end Go.Ky

/- KX 31: the parser's states: tokens left, sizes of what is read. -/
set_option linter.unusedSimpArgs false
set_option linter.unusedVariables false
namespace Go.Ky
open Go.Pi Go.Lx
structure WfT (l:List Tok):Prop where
 ne:l≠[]
 last:∀ t,l.getLast?=some t→t.kind=0
 mid:∀ t,t∈l.dropLast→t.kind≠0
 nam:∀ t,t∈l→t.kind=1→t.text.length≤24
theorem WfT.len {l:List Tok} (h:WfT l):1≤l.length:=by
 cases l with
 |nil=>exact absurd rfl h.ne
 |cons a r=>simp
theorem WfT.two {l:List Tok} (h:WfT l) (h0:(l.headD d5C).kind≠0):2≤l.length:=by
 match l,h with
 |[],h=>exact absurd rfl h.ne
 |[a],h=>exact absurd (h.last a rfl) h0
 |a::b::r,_=>simp
theorem WfT.drop {l:List Tok} (h:WfT l) {k:Nat} (hk:k < l.length):WfT (l.drop k):=by
 refine⟨fun e=>?_,fun t ht=>?_,fun t ht=>?_,fun t ht=>h.nam t (h3D ht)⟩
 ·have:=congrArg List.length e
  rw[h2N] at this
  simp at this;omega
 ·rw[List.getLast?_drop] at ht
  split at ht
  ·cases ht
  ·exact h.last t ht
 ·refine h.mid t ?_
  have e:(l.drop k).dropLast=l.dropLast.drop k:=by
   rw[List.dropLast_eq_take,List.dropLast_eq_take,h2N,List.drop_take]
   congr 1;omega
  rw[e] at ht
  exact h3D ht
def Suf (s s':Ps):Prop:=∃ k,k < s.ts.length∧s'.ts=s.ts.drop k
theorem Suf.refl {s:Ps} (h:WfT s.ts):Suf s s:=⟨0,h.len,by simp⟩
theorem Suf.trans {a b c:Ps} (h:Suf a b) (h':Suf b c):Suf a c:=by
 obtain⟨k,hk,e⟩:=h
 obtain⟨j,hj,e'⟩:=h'
 rw[e,h2N] at hj
 refine⟨k+j,by omega,by rw[e',e,h1M]⟩
theorem Suf.wf {a b:Ps} (h:Suf a b) (hw:WfT a.ts):WfT b.ts:=by
 obtain⟨k,hk,e⟩:=h
 rw[e];exact hw.drop hk
theorem Suf.le {a b:Ps} (h:Suf a b):b.ts.length≤a.ts.length:=by
 obtain⟨k,hk,e⟩:=h
 rw[e,h2N];omega
theorem d6K {s:Ps} (h:WfT s.ts) (e:Int):Suf s (d5E e s):=⟨s.ts.length - 1,by have:=h.len;omega,rfl⟩
theorem d6L {s:Ps} (h:WfT s.ts):Suf s (d5F s):=by
 unfold d5F
 by_cases h1:1 < s.ts.length
 ·exact⟨1,h1,by simp only[if_pos h1]⟩
 ·exact⟨0,h.len,by simp only[if_neg h1,h1O]⟩
theorem d6M {t:Nm} {s:Ps} (h:atM t s=true):s.hd.kind≠0:=by
 unfold atM at h
 simp only[h0S,h4S] at h
 exact h.1
theorem d6N {s:Ps} (h:WfT s.ts) (h0:s.hd.kind≠0):(d5F s).ts.length+1=s.ts.length:=by
 have:=h.two h0
 unfold d5F
 simp only
 rw[if_pos (by omega),h2N];omega
theorem d6O {s:Ps} (h:WfT s.ts) (t:Nm):Suf s (d5H t s):=by
 unfold d5H
 split
 ·exact d6L h
 ·exact d6K h 2
theorem d6P {s:Ps} (h:WfT s.ts):Suf s (d5I s).2:=by
 unfold d5I
 split
 ·exact d6K h 2
 ·exact d6L h
theorem d6Q {s:Ps} (h:WfT s.ts) (lo hi:Nat):Suf s (d5J lo hi s).2:=by
 unfold d5J
 split
 ·exact d6K h 2
 ·split
  ·exact d6K h 3
  ·exact d6L h
theorem d6R (pos:Int) (b:Bool) (s:Ps):(d5K pos b s).ts=s.ts:=by
 unfold d5K
 split <;> rfl
theorem d6S {s:Ps} (h:WfT s.ts) (pos:Int) (b:Bool):Suf s (d5K pos b s):=⟨0,h.len,by rw[d6R,h1O]⟩
theorem d6T {s:Ps} (h:WfT s.ts):Suf s (d5V s).2:=by
 unfold d5V
 repeat' split
 ·exact d6L h
 ·exact d6L h
 ·exact(d6L h).trans (d6Q ((d6L h).wf h) _ _)
 ·exact d6K h 2
theorem d6U {s:Ps} (h:WfT s.ts):Suf s (tyM s).2:=by
 have h1:=d6T h
 have w1:=h1.wf h
 unfold tyM
 split
 ·have h2:=d6L w1
  have w2:=h2.wf w1
  have h3:=d6Q w2 1 64
  exact((h1.trans h2).trans h3).trans (d6O (h3.wf w2) _)
 ·exact h1
theorem d6V {s:Ps} (h:WfT s.ts):Suf s (d5W s).2:=by
 have h1:=d6P h
 have w1:=h1.wf h
 have h2:=d6O w1 [58]
 exact(h1.trans h2).trans (d6U (h2.wf w1))
structure Rd (s:Ps) (z c:Nat) (s':Ps):Prop where
 suf:Suf s s'
 sz:z+64 * s'.ts.length≤64 * s.ts.length+c
theorem d6W (o:Int) (l:List Exp):szE (nod o l)=4+d2X l:=by
 unfold nod
 rw[d2Z];simp [Exp.name,Exp.args]
theorem d6X (a b:List Exp):d2X (a++b)=d2X a+d2X b:=by
 induction a with
 |nil=>rw[h3G];show _=0+_;omega
 |cons x r ih=>rw[h1L,d3A,d3A,ih];omega
theorem d6Y (a:Exp):d2X [a]=szE a:=by rw[d3A];show _+0=_;omega
theorem d6Z (a b:Exp):d2X [a,b]=szE a+szE b:=by rw[d3A,d6Y]
theorem d7A (a b c:Exp):d2X [a,b,c]=szE a+szE b+szE c:=by rw[d3A,d6Z];omega
theorem d7B:szE zEx=4:=by rw[d2Z];rfl
theorem d7C {s:Ps}:∀ {l:List (Nm×Int)} {o:Int},d5L s l=some o→s.hd.kind≠0
 |[],_,h=>by cases h
 |(t,o)::r,_,h=>by
  rw[d5L] at h
  split at h
  ·rename_i ha;exact d6M ha
  ·exact d7C h
structure RdAll (n:Nat):Prop where
 ex:∀ s,WfT s.ts→Rd s (szE (d5M n s).1) 4 (d5M n s).2
 bi:∀ lv s,WfT s.ts→Rd s (szE (d5N n lv s).1) 4 (d5N n lv s).2
 bl:∀ lv e s,WfT s.ts→Rd s (szE (d5O n lv e s).1) (szE e) (d5O n lv e s).2
 un:∀ s,WfT s.ts→Rd s (szE (unM n s).1) 4 (unM n s).2
 il:∀ e s,WfT s.ts→Rd s (szE (d5P n e s).1) (szE e) (d5P n e s).2
 pr:∀ s,WfT s.ts→Rd s (szE (d5Q n s).1) 4 (d5Q n s).2
 ar:∀ s,WfT s.ts→Rd s (d2X (d5R n s).1) 4 (d5R n s).2
 ha:∀ s,WfT s.ts→Rd s (szE (d5S n s).1) 12 (d5S n s).2
 li:∀ s,WfT s.ts→Rd s (d2X (d5T n s).1) 4 (d5T n s).2
 ll:∀ l s,WfT s.ts→Rd s (d2X (d5U n l s).1) (d2X l) (d5U n l s).2
theorem d7D:RdAll 0:=by
 have z:=d7B
 constructor
 ·intro s h;rw[d5M];exact⟨.refl h,by simp only;omega⟩
 ·intro lv s h;rw[d5N];exact⟨.refl h,by simp only;omega⟩
 ·intro lv e s h;rw[d5O];exact⟨.refl h,by simp only;omega⟩
 ·intro s h;rw[unM];exact⟨.refl h,by simp only;omega⟩
 ·intro e s h;rw[d5P];exact⟨.refl h,by simp only;omega⟩
 ·intro s h;rw[d5Q];exact⟨.refl h,by simp only;omega⟩
 ·intro s h;rw[d5R];exact⟨.refl h,by show 0+64 * s.ts.length≤_;omega⟩
 ·intro s h;rw[d5S];exact⟨.refl h,by simp only;omega⟩
 ·intro s h;rw[d5T];exact⟨.refl h,by show 0+64 * s.ts.length≤_;omega⟩
 ·intro l s h;rw[d5U];exact⟨.refl h,by simp only;omega⟩
theorem d7E {n:Nat} (ih:RdAll n):RdAll (n+1):=by
 have z:=d7B
 constructor
 ·intro s h
  rw[d5M]
  have h1:=ih.bi 0 s h
  have w1:=h1.suf.wf h
  split
  ·rename_i ha
   have h2:=d6L w1
   have l2:=d6N w1 (d6M ha)
   have w2:=h2.wf w1
   have h3:=ih.ex _ w2
   have w3:=h3.suf.wf w2
   have h4:=d6O w3 [58]
   have w4:=h4.wf w3
   have h5:=ih.ex _ w4
   refine⟨((h1.suf.trans h2).trans (h3.suf.trans h4)).trans h5.suf,?_⟩
   have a1:=h1.sz
   have a3:=h3.sz
   have a4:=h4.le
   have a5:=h5.sz
   simp only[d6W,d7A]
   omega
  ·exact h1
 ·intro lv s h
  rw[d5N]
  split
  ·exact ih.un s h
  ·have h1:=ih.bi (lv+1) s h
   have h2:=ih.bl lv (d5N n (lv+1) s).1 _ (h1.suf.wf h)
   refine⟨h1.suf.trans h2.suf,?_⟩
   have a1:=h1.sz
   have a2:=h2.sz
   omega
 ·intro lv e s h
  rw[d5O]
  cases ho:opL lv s with
  |none=>exact⟨.refl h,by simp only;omega⟩
  |some o =>
   have h2:=d6L h
   have l2:=d6N h (d7C ho)
   have w2:=h2.wf h
   have h3:=ih.bi (lv+1) _ w2
   have w3:=h3.suf.wf w2
   have a3:=h3.sz
   simp only
   split
   ·refine⟨h2.trans h3.suf,?_⟩
    simp only[d6W,d6Z]
    omega
   ·have h4:=ih.bl lv (nod o [e,(d5N n (lv+1) (d5F s)).1]) _ w3
    refine⟨(h2.trans h3.suf).trans h4.suf,?_⟩
    have a4:=h4.sz
    rw[d6W,d6Z] at a4
    omega
 ·intro s h
  rw[unM]
  split
  ·rename_i ha
   have h2:=d6L h
   have l2:=d6N h (d6M ha)
   have h3:=ih.un _ (h2.wf h)
   refine⟨h2.trans h3.suf,?_⟩
   have a3:=h3.sz
   simp only[d6W,d6Y]
   omega
  ·split
   ·rename_i ha
    have h2:=d6L h
    have l2:=d6N h (d6M ha)
    have h3:=ih.un _ (h2.wf h)
    refine⟨h2.trans h3.suf,?_⟩
    have a3:=h3.sz
    simp only[d6W,d6Y]
    omega
   ·have h1:=ih.pr s h
    have h2:=ih.il (d5Q n s).1 _ (h1.suf.wf h)
    refine⟨h1.suf.trans h2.suf,?_⟩
    have a1:=h1.sz
    have a2:=h2.sz
    omega
 ·intro e s h
  rw[d5P]
  split
  ·rename_i ha
   have h2:=d6L h
   have l2:=d6N h (d6M ha)
   have w2:=h2.wf h
   have h3:=ih.ex _ w2
   have w3:=h3.suf.wf w2
   have h4:=d6O w3 [93]
   have h5:=ih.il (nod 8 [e,(d5M n (d5F s)).1]) _ (h4.wf w3)
   refine⟨((h2.trans h3.suf).trans h4).trans h5.suf,?_⟩
   have a3:=h3.sz
   have a4:=h4.le
   have a5:=h5.sz
   rw[d6W,d6Z] at a5
   omega
  ·exact⟨.refl h,by simp only;omega⟩
 ·intro s h
  rw[d5Q]
  by_cases k3:s.hd.kind=3
  ·rw[if_pos k3]
   have l2:=d6N h (by omega)
   refine⟨d6L h,?_⟩
   simp only[d2Z,Exp.name,Exp.args,h2P]
   show 4+0+0+_≤_
   omega
  rw[if_neg k3]
  by_cases k1:s.hd.kind=1
  ·rw[if_pos k1]
   have l2:=d6N h (by omega)
   have h2:=d6L h
   have w2:=h2.wf h
   have hn:s.hd.text.length≤24:=by
    unfold Ps.hd at k1 ⊢
    match hts:s.ts,h.ne with
    |a::r,_ =>
     rw[hts] at k1
     exact h.nam a (by rw[hts];simp) k1
   split
   ·rename_i ha
    have l3:=d6N w2 (d6M ha)
    have h3:=d6L w2
    have w3:=h3.wf w2
    have h4:=ih.ar _ w3
    refine⟨(h2.trans h3).trans h4.suf,?_⟩
    have a4:=h4.sz
    simp only[d2Z,Exp.name,Exp.args]
    omega
   ·refine⟨h2,?_⟩
    simp only[d2Z,Exp.name,Exp.args]
    show 4+_+0+_≤_
    omega
  rw[if_neg k1]
  split
  ·rename_i ha
   have l2:=d6N h (d6M ha)
   refine⟨d6L h,?_⟩
   simp only[d6W]
   show 4+0+_≤_
   omega
  split
  ·rename_i ha
   have l2:=d6N h (d6M ha)
   refine⟨d6L h,?_⟩
   simp only[d6W]
   show 4+0+_≤_
   omega
  split
  ·rename_i ha
   have l2:=d6N h (d6M ha)
   have h2:=d6L h
   have h3:=ih.ha _ (h2.wf h)
   refine⟨h2.trans h3.suf,?_⟩
   have:=h3.sz
   omega
  split
  ·rename_i ha
   have l2:=d6N h (d6M ha)
   have h2:=d6L h
   have w2:=h2.wf h
   have h3:=ih.li _ w2
   have h4:=d6O (h3.suf.wf w2) [93]
   refine⟨(h2.trans h3.suf).trans h4,?_⟩
   have a3:=h3.sz
   have a4:=h4.le
   simp only[d6W]
   omega
  split
  ·rename_i ha
   have l2:=d6N h (d6M ha)
   have h2:=d6L h
   have w2:=h2.wf h
   have h3:=ih.ex _ w2
   have h4:=d6O (h3.suf.wf w2) [41]
   refine⟨(h2.trans h3.suf).trans h4,?_⟩
   have a3:=h3.sz
   have a4:=h4.le
   simp only
   omega
  ·have h2:=d6K h 2
   refine⟨h2,?_⟩
   have:=h2.le
   simp only
   omega
 ·intro s h
  rw[d5R]
  split
  ·have h2:=d6L h
   refine⟨h2,?_⟩
   have:=h2.le
   show 0+_≤_
   simp only
   omega
  ·have h3:=ih.li s h
   have h4:=d6O (h3.suf.wf h) [41]
   refine⟨h3.suf.trans h4,?_⟩
   have a3:=h3.sz
   have a4:=h4.le
   simp only
   omega
 ·intro s h
  rw[d5S]
  have h1:=d6O h [40]
  have w1:=h1.wf h
  have a1:=h1.le
  split
  ·have h2:=d6K w1 2
   have a2:=h2.le
   refine⟨h1.trans h2,?_⟩
   simp only
   omega
  ·have h2:=d6L w1
   have w2:=h2.wf w1
   have a2:=h2.le
   have h3:=d6O w2 [59]
   have w3:=h3.wf w2
   have a3:=h3.le
   have h4:=ih.li _ w3
   have w4:=h4.suf.wf w3
   have h5:=d6O w4 [41]
   refine⟨((h1.trans h2).trans (h3.trans h4.suf)).trans h5,?_⟩
   have a4:=h4.sz
   have a5:=h5.le
   simp only[d2Z,Exp.name,Exp.args,h2P]
   omega
 ·intro s h
  rw[d5T]
  have h1:=ih.ex s h
  have h2:=ih.ll [(d5M n s).1] _ (h1.suf.wf h)
  refine⟨h1.suf.trans h2.suf,?_⟩
  have a1:=h1.sz
  have a2:=h2.sz
  rw[d6Y] at a2
  omega
 ·intro l s h
  rw[d5U]
  split
  ·rename_i ha
   have l2:=d6N h (d6M ha)
   have h2:=d6L h
   have w2:=h2.wf h
   have h3:=ih.ex _ w2
   have h4:=ih.ll (l++[(d5M n (d5F s)).1]) _ (h3.suf.wf w2)
   refine⟨(h2.trans h3.suf).trans h4.suf,?_⟩
   have a3:=h3.sz
   have a4:=h4.sz
   rw[d6X,d6Y] at a4
   omega
  ·exact⟨.refl h,by simp only;omega⟩
theorem d7F:∀ n,RdAll n
 |0=>d7D
 |n+1=>d7E (d7F n)
end Go.Ky

/- KX 32: the parser does not d4C at the places of tokens. -/
namespace Go.Ky
open Go.Pi Go.Lx
structure Eqv (s s':Ps):Prop where
 ts:Lx.Alike s.ts s'.ts
 err:s.err=s'.err
 deep:s.deep=s'.deep
theorem d7G:∀ (k:Nat) {a b:List Tok},Lx.Alike a b→Lx.Alike (a.drop k) (b.drop k)
 |0,a,b,h=>by simpa using h
 |k+1,[],[],_=>by simp;trivial
 |k+1,[],_::_,h=>by cases h
 |k+1,_::_,[],h=>by cases h
 |k+1,_::a,_::b,h=>by simpa using d7G k h.2
theorem d7H {s s':Ps} (h:Eqv s s'):like s.hd s'.hd:=by
 have ht:=h.ts
 unfold Ps.hd
 match ha:s.ts,hb:s'.ts,ht with
 |[],[],_=>exact⟨rfl,rfl,rfl⟩
 |[],_::_,h=>cases h
 |_::_,[],h=>cases h
 |a::_,b::_,h=>exact h.1
theorem d7I {s s':Ps} (h:Eqv s s') (t:Nm):atM t s=atM t s':=by
 obtain⟨h1,h2,_⟩:=d7H h
 unfold atM
 rw[h1,h2]
theorem d7J {s s':Ps} (h:Eqv s s'):Eqv (d5F s) (d5F s'):=by
 have hl:=d1L h.ts
 refine⟨?_,h.err,h.deep⟩
 unfold d5F
 simp only[hl]
 split
 ·exact d7G 1 h.ts
 ·exact h.ts
theorem d7K {s s':Ps} (h:Eqv s s') (e:Int):Eqv (d5E e s) (d5E e s'):=by
 have hl:=d1L h.ts
 refine⟨?_,?_,h.deep⟩
 ·show Lx.Alike (d5D s.ts) (d5D s'.ts)
  unfold d5D
  rw[hl]
  exact d7G _ h.ts
 ·show(if s.err=0 then e else s.err)=if s'.err=0 then e else s'.err
  rw[h.err]
theorem d7L {s s':Ps} (h:Eqv s s') (t:Nm):Eqv (d5H t s) (d5H t s'):=by
 unfold d5H
 rw[d7I h t]
 split
 ·exact d7J h
 ·exact d7K h 2
theorem d7M {s s':Ps} (h:Eqv s s'):(d5I s).1=(d5I s').1∧Eqv (d5I s).2 (d5I s').2:=by
 obtain⟨h1,h2,_⟩:=d7H h
 unfold d5I
 rw[h1,h2]
 split
 ·exact⟨rfl,d7K h 2⟩
 ·exact⟨rfl,d7J h⟩
theorem d7N {s s':Ps} (h:Eqv s s') (lo hi:Nat):(d5J lo hi s).1=(d5J lo hi s').1∧Eqv (d5J lo hi s).2 (d5J lo hi s').2:=by
 obtain⟨h1,_,h3⟩:=d7H h
 unfold d5J
 rw[h1,h3]
 split
 ·exact⟨rfl,d7K h 2⟩
 ·split
  ·exact⟨rfl,d7K h 3⟩
  ·exact⟨rfl,d7J h⟩
theorem d7O {s s':Ps} (h:Eqv s s') (p p':Int) (b:Bool):Eqv (d5K p b s) (d5K p' b s'):=by
 unfold d5K
 rw[h.deep]
 split
 ·exact⟨h.ts,h.err,rfl⟩
 ·exact h
theorem d7P {s s':Ps} (h:Eqv s s'):(d5V s).1=(d5V s').1∧Eqv (d5V s).2 (d5V s').2:=by
 have hn:=d7N (d7J h) 1 62
 unfold d5V
 rw[d7I h,d7I h,d7I h]
 split
 ·exact⟨rfl,d7J h⟩
 ·split
  ·exact⟨rfl,d7J h⟩
  ·split
   ·exact⟨by rw[hn.1],hn.2⟩
   ·exact⟨rfl,d7K h 2⟩
theorem d7Q {s s':Ps} (h:Eqv s s'):(tyM s).1=(tyM s').1∧Eqv (tyM s).2 (tyM s').2:=by
 obtain⟨k1,k2⟩:=d7P h
 have hn:=d7N (d7J k2) 1 64
 unfold tyM
 rw[d7I k2,k1]
 split
 ·exact⟨by rw[hn.1],d7L hn.2 _⟩
 ·exact⟨k1,k2⟩
theorem d7R {s s':Ps} (h:Eqv s s'):(d5W s).1=(d5W s').1∧Eqv (d5W s).2 (d5W s').2:=by
 obtain⟨k1,k2⟩:=d7M h
 obtain⟨t1,t2⟩:=d7Q (d7L k2 [58])
 unfold d5W
 exact⟨by rw[k1,t1],t2⟩
theorem d7S {s s':Ps} (h:Eqv s s') (lv:Nat):opL lv s=opL lv s':=by
 unfold opL
 generalize ops lv=l
 induction l with
 |nil=>rfl
 |cons p r ih =>
  obtain⟨t,o⟩:=p
  rw[d5L,d5L,d7I h t,ih]
abbrev Sm {α:Type} (a b:α×Ps):Prop:=a.1=b.1∧Eqv a.2 b.2
structure EqAll (n:Nat):Prop where
 ex:∀ s s',Eqv s s'→Sm (d5M n s) (d5M n s')
 bi:∀ lv s s',Eqv s s'→Sm (d5N n lv s) (d5N n lv s')
 bl:∀ lv e s s',Eqv s s'→Sm (d5O n lv e s) (d5O n lv e s')
 un:∀ s s',Eqv s s'→Sm (unM n s) (unM n s')
 il:∀ e s s',Eqv s s'→Sm (d5P n e s) (d5P n e s')
 pr:∀ s s',Eqv s s'→Sm (d5Q n s) (d5Q n s')
 ar:∀ s s',Eqv s s'→Sm (d5R n s) (d5R n s')
 ha:∀ s s',Eqv s s'→Sm (d5S n s) (d5S n s')
 li:∀ s s',Eqv s s'→Sm (d5T n s) (d5T n s')
 ll:∀ l s s',Eqv s s'→Sm (d5U n l s) (d5U n l s')
theorem d7T:∀ n,EqAll n:=by
 intro n
 induction n with
 |zero =>
  constructor
  ·intro s s' h;rw[d5M,d5M];exact⟨rfl,h⟩
  ·intro lv s s' h;rw[d5N,d5N];exact⟨rfl,h⟩
  ·intro lv e s s' h;rw[d5O,d5O];exact⟨rfl,h⟩
  ·intro s s' h;rw[unM,unM];exact⟨rfl,h⟩
  ·intro e s s' h;rw[d5P,d5P];exact⟨rfl,h⟩
  ·intro s s' h;rw[d5Q,d5Q];exact⟨rfl,h⟩
  ·intro s s' h;rw[d5R,d5R];exact⟨rfl,h⟩
  ·intro s s' h;rw[d5S,d5S];exact⟨rfl,h⟩
  ·intro s s' h;rw[d5T,d5T];exact⟨rfl,h⟩
  ·intro l s s' h;rw[d5U,d5U];exact⟨rfl,h⟩
 |succ n ih =>
  constructor
  ·intro s s' h
   obtain⟨a1,a2⟩:=ih.bi 0 s s' h
   obtain⟨b1,b2⟩:=ih.ex _ _ (d7J a2)
   obtain⟨c1,c2⟩:=ih.ex _ _ (d7L b2 [58])
   rw[d5M,d5M,d7I a2]
   split
   ·exact⟨by rw[a1,b1,c1],c2⟩
   ·exact⟨a1,a2⟩
  ·intro lv s s' h
   rw[d5N,d5N]
   split
   ·exact ih.un s s' h
   ·obtain⟨a1,a2⟩:=ih.bi (lv+1) s s' h
    rw[a1]
    exact ih.bl lv _ _ _ a2
  ·intro lv e s s' h
   rw[d5O,d5O,d7S h lv]
   cases opL lv s' with
   |none=>exact⟨rfl,h⟩
   |some o =>
    obtain⟨a1,a2⟩:=ih.bi (lv+1) _ _ (d7J h)
    simp only
    split
    ·exact⟨by rw[a1],a2⟩
    ·rw[a1];exact ih.bl lv _ _ _ a2
  ·intro s s' h
   obtain⟨a1,a2⟩:=ih.un _ _ (d7J h)
   obtain⟨b1,b2⟩:=ih.pr _ _ h
   rw[unM,unM,d7I h,d7I h]
   split
   ·exact⟨by rw[a1],a2⟩
   ·split
    ·exact⟨by rw[a1],a2⟩
    ·rw[b1];exact ih.il _ _ _ b2
  ·intro e s s' h
   obtain⟨a1,a2⟩:=ih.ex _ _ (d7J h)
   rw[d5P,d5P,d7I h]
   split
   ·rw[a1];exact ih.il _ _ _ (d7L a2 _)
   ·exact⟨rfl,h⟩
  ·intro s s' h
   obtain⟨h1,h2,h3⟩:=d7H h
   have ht:=d7J h
   obtain⟨a1,a2⟩:=ih.ar _ _ (d7J ht)
   obtain⟨b1,b2⟩:=ih.li _ _ ht
   obtain⟨c1,c2⟩:=ih.ex _ _ ht
   rw[d5Q,d5Q,h1,h2,h3,d7I ht,d7I h,d7I h,d7I h,d7I h,d7I h]
   split
   ·exact⟨rfl,ht⟩
   split
   ·split
    ·exact⟨by rw[a1],a2⟩
    ·exact⟨rfl,ht⟩
   split
   ·exact⟨rfl,ht⟩
   split
   ·exact⟨rfl,ht⟩
   split
   ·exact ih.ha _ _ ht
   split
   ·exact⟨by rw[b1],d7L b2 _⟩
   split
   ·exact⟨c1,d7L c2 _⟩
   ·exact⟨rfl,d7K h 2⟩
  ·intro s s' h
   obtain⟨b1,b2⟩:=ih.li _ _ h
   rw[d5R,d5R,d7I h]
   split
   ·exact⟨rfl,d7J h⟩
   ·exact⟨b1,d7L b2 _⟩
  ·intro s s' h
   have h1:=d7L h [40]
   obtain⟨k1,k2,k3⟩:=d7H h1
   obtain⟨b1,b2⟩:=ih.li _ _ (d7L (d7J h1) [59])
   rw[d5S,d5S,k1,k3]
   split
   ·exact⟨rfl,d7K h1 2⟩
   ·exact⟨by rw[b1],d7L b2 _⟩
  ·intro s s' h
   obtain⟨a1,a2⟩:=ih.ex _ _ h
   rw[d5T,d5T,a1]
   exact ih.ll _ _ _ a2
  ·intro l s s' h
   obtain⟨a1,a2⟩:=ih.ex _ _ (d7J h)
   rw[d5U,d5U,d7I h]
   split
   ·rw[a1];exact ih.ll _ _ _ a2
   ·exact⟨rfl,h⟩
theorem d7U {n:Nat} {s s':Ps} (h:Eqv s s'):Sm (d5Y n s) (d5Y n s'):=by
 obtain⟨a1,a2⟩:=d7M h
 obtain⟨t1,t2⟩:=d7Q (d7J a2)
 unfold d5Y
 simp only
 rw[a1,d7I a2]
 split
 ·obtain⟨e1,e2⟩:=(d7T n).ex _ _ (d7L t2 [61])
  exact⟨by simp only;rw[t1,e1],d7L e2 _⟩
 ·obtain⟨e1,e2⟩:=(d7T n).ex _ _ (d7L a2 [61])
  exact⟨by simp only;rw[e1],d7L e2 _⟩
theorem d7V {n:Nat} {s s':Ps} (h:Eqv s s'):Sm (d5Z n s) (d5Z n s'):=by
 obtain⟨e1,e2⟩:=(d7T n).ex _ _ h
 unfold d5Z
 exact⟨by simp only;rw[e1],d7L e2 _⟩
theorem d7W:∀ n,(∀ s s',Eqv s s'→Sm (d6A n s) (d6A n s'))∧∀ o l s s',Eqv s s'→Sm (d6B n o l s) (d6B n o l s'):=by
 intro n
 induction n with
 |zero =>
  constructor
  ·intro s s' h;rw[d6A,d6A];exact⟨rfl,h⟩
  ·intro o l s s' h;rw[d6B,d6B];exact⟨rfl,h⟩
 |succ n ih =>
  constructor
  ·intro s s' h
   obtain⟨_,h2,_⟩:=d7H h
   have ht:=d7J h
   obtain⟨a1,a2⟩:=d7M ht
   obtain⟨l1,l2⟩:=d7N (d7L a2 [105,110]) 0 1000000
   obtain⟨m1,m2⟩:=d7N (d7L l2 [46,46]) 0 1000000
   obtain⟨b1,b2⟩:=ih.2 false [] _ _ (d7L m2 [123])
   rw[d6A,d6A,h2]
   split
   ·exact d7U ht
   split
   ·exact d7V ht
   split
   ·exact⟨by simp only;rw[a1,l1,m1,b1],d7L b2 _⟩
   ·exact⟨rfl,ht⟩
  ·intro o l s s' h
   obtain⟨a1,a2⟩:=ih.1 _ _ h
   rw[d6B,d6B]
   unfold atS
   rw[d7I h,d7I h,d7I h]
   split
   ·rw[a1]
    cases o with
    |true=>exact ih.2 _ _ _ _ (d7O a2 _ _ _)
    |false=>exact ih.2 _ _ _ _ a2
   ·exact⟨rfl,h⟩
theorem d7X:∀ n l s s',Eqv s s'→Sm (d6C n l s) (d6C n l s'):=by
 intro n
 induction n with
 |zero=>intro l s s' h;rw[d6C,d6C];exact⟨rfl,h⟩
 |succ n ih =>
  intro l s s' h
  obtain⟨a1,a2⟩:=d7R (d7J h)
  rw[d6C,d6C,d7I h]
  split
  ·rw[a1];exact ih _ _ _ a2
  ·exact⟨rfl,h⟩
theorem d7Y {n:Nat} {s s':Ps} (h:Eqv s s'):Sm (d6D n s) (d6D n s'):=by
 obtain⟨a1,a2⟩:=d7R h
 unfold d6D
 rw[d7I h]
 split
 ·exact⟨rfl,h⟩
 ·rw[a1];exact d7X _ _ _ _ a2
theorem d7Z {n:Nat} {s s':Ps} (h:Eqv s s'):Sm (fnM n s) (fnM n s'):=by
 obtain⟨a1,a2⟩:=d7M (d7L h [102,110])
 obtain⟨p1,p2⟩:=d7Y (n:=n) (d7L a2 [40])
 obtain⟨t1,t2⟩:=d7Q (d7L (d7L p2 [41]) [58])
 obtain⟨b1,b2⟩:=(d7W n).2 true [] _ _ (d7L t2 [123])
 obtain⟨e1,e2⟩:=(d7T n).ex _ _ (d7L b2 [114,101,116,117,114,110])
 unfold fnM
 exact⟨by simp only;rw[a1,p1,t1,b1,e1],by simp only;rw[e1];exact d7L (d7L (d7O e2 _ _ _) _) _⟩
theorem d8A {s s':Ps} (h:Eqv s s'):Sm (d6E s) (d6E s'):=by
 obtain⟨_,h2,_⟩:=d7H h
 obtain⟨a1,a2⟩:=d7M (d7J h)
 obtain⟨t1,t2⟩:=d7Q (d7L a2 [58])
 unfold d6E
 exact⟨by simp only;rw[h2,a1,t1],d7L t2 _⟩
theorem d8B:∀ n l s s',Eqv s s'→Sm (d6F n l s) (d6F n l s'):=by
 intro n
 induction n with
 |zero=>intro l s s' h;rw[d6F,d6F];exact⟨rfl,h⟩
 |succ n ih =>
  intro l s s' h
  obtain⟨a1,a2⟩:=d7Z (n:=n) h
  rw[d6F,d6F,d7I h]
  split
  ·rw[a1];exact ih _ _ _ a2
  ·exact⟨rfl,h⟩
theorem d8C:∀ n l s s',Eqv s s'→Sm (d6G n l s) (d6G n l s'):=by
 intro n
 induction n with
 |zero=>intro l s s' h;rw[d6G,d6G];exact⟨rfl,h⟩
 |succ n ih =>
  intro l s s' h
  obtain⟨a1,a2⟩:=d8A h
  rw[d6G,d6G,d7I h,d7I h]
  split
  ·rw[a1];exact ih _ _ _ a2
  ·exact⟨rfl,h⟩
theorem d8D {n:Nat} {s s':Ps} (h:Eqv s s'):Sm (d6J n s) (d6J n s'):=by
 obtain⟨a1,a2⟩:=d8B n [] _ _ h
 obtain⟨b1,b2⟩:=d8C n [] _ _ a2
 obtain⟨c1,c2⟩:=(d7W n).2 true [] _ _ b2
 unfold d6J
 refine⟨by simp only;rw[a1,b1,c1],?_⟩
 simp only
 unfold d6H
 rw[(d7H c2).1]
 split
 ·exact d7K c2 2
 ·exact c2
theorem d8E {l l':List Tok} (h:Lx.Alike l l'):Eqv (st0 l) (st0 l'):=⟨h,rfl,rfl⟩
end Go.Ky

/- KX 33: what the lexer hands the parser; blanks and comments between tokens. -/
namespace Go.Ky
open Go.Pi Go.Lx
theorem d8F {s:List UInt8} {k n v:Nat} (h:next s=.ok k n v):k≠0∧(k=1→n≤24):=by
 match s with
 |[]=>cases h
 |c::r =>
  rw[next] at h
  split at h
  ·unfold d0V at h
   split at h
   ·injection h with a b c';subst a;exact⟨by decide,fun h=>by omega⟩
   ·split at h
    ·cases h
    ·injection h with a b c';subst a b;exact⟨by decide,fun _=>by omega⟩
  ·split at h
   ·unfold d0W at h
    split at h
    ·cases h
    ·split at h
     ·cases h
     ·injection h with a b c';subst a;exact⟨by decide,fun h=>by omega⟩
   ·split at h
    ·injection h with a b c';subst a;exact⟨by decide,fun h=>by omega⟩
    ·split at h
     ·injection h with a b c';subst a;exact⟨by decide,fun h=>by omega⟩
     ·cases h
theorem d8G {t:Tok} {l:List Tok} (h:WfT l) (hk:t.kind≠0) (hn:t.kind=1→t.text.length≤24):WfT (t::l):=by
 refine⟨by simp,fun x hx=>?_,fun x hx=>?_,fun x hx=>?_⟩
 ·match l,h with
  |[],h=>exact absurd rfl h.ne
  |a::r,h=>exact h.last x (by simpa [List.getLast?_cons_cons] using hx)
 ·match l,h with
  |[],h=>exact absurd rfl h.ne
  |a::r,h =>
   rw[List.dropLast_cons_cons] at hx
   rcases h2X.1 hx with e|e
   ·subst e;exact hk
   ·exact h.mid x e
 ·rcases h2X.1 hx with e|e
  ·subst e;exact hn
  ·exact h.nam x e
theorem d8H:∀ (n:Nat) (s:List UInt8) (pos:Nat) (l:List Tok),s.length=n→d0X pos s=.toks l→WfT l:=by
 intro n
 induction n using Nat.strongRecOn with
 |_ n ih =>
  intro s pos l hs h
  rcases d1G s with h1|⟨h1,⟨e,hn⟩|⟨k,m,v,hn⟩⟩
  ·rw[d1D h1] at h
   injection h with h
   subst h
   exact⟨by simp,fun t ht=>by simp at ht;subst ht;rfl,fun t ht=>by simp at ht,fun t ht hk=>by simp at ht;subst ht;simp⟩
  ·rw[d1E h1 hn] at h;cases h
  ·rw[d1F h1 hn] at h
   have hp:=d1C hn
   cases hq:d0X (pos+gap s+m) (s.drop (gap s+m)) with
   |err p e=>rw[hq] at h;cases h
   |toks q =>
    rw[hq] at h
    injection h with h
    subst h
    have:=ih (s.drop (gap s+m)).length (by simp only[h2N] at hp ⊢;omega) _ _ q rfl hq
    obtain⟨k0,k1⟩:=d8F hn
    exact d8G this k0 fun h1=>by have:=k1 h1;simp only[h2R];omega
theorem d8I:∀ (n:Nat) (s:List UInt8) (pos:Nat) (l:List Tok),s.length=n→d0X pos s=.toks l→l.length≤s.length+1:=by
 intro n
 induction n using Nat.strongRecOn with
 |_ n ih =>
  intro s pos l hs h
  rcases d1G s with h1|⟨h1,⟨e,hn⟩|⟨k,m,v,hn⟩⟩
  ·rw[d1D h1] at h
   injection h with h
   subst h
   simp
  ·rw[d1E h1 hn] at h;cases h
  ·rw[d1F h1 hn] at h
   have hp:=d1C hn
   cases hq:d0X (pos+gap s+m) (s.drop (gap s+m)) with
   |err p e=>rw[hq] at h;cases h
   |toks q =>
    rw[hq] at h
    injection h with h
    subst h
    have:=ih (s.drop (gap s+m)).length (by simp only[h2N] at hp ⊢;omega) _ _ q rfl hq
    simp only[h2N,h2M] at this hp ⊢
    omega
def ahd (g0:List UInt8):List (Tok×List UInt8)→List (List UInt8×Tok)
 |[]=>[]
 |(t,g)::r=>(g0,t)::ahd g r
theorem b2Q:∀ (l:List (Tok×List UInt8)) (g0:List UInt8) (p:List UInt8×Tok),p∈ahd g0 l→p.1=g0∨p.1∈l.map (·.2)
 |[],_,p,h=>by simp [ahd] at h
 |(t,g)::r,g0,p,h=>by
  rw[ahd] at h
  rcases h2X.1 h with e|e
  ·subst e;exact .inl rfl
  ·rcases b2Q r g p e with e|e
   ·rw[e];simp
   ·right;simp only[h2U,h2X];exact .inr e
end Go.Ky

/- KX 34: a text ahead of a lexer's error has tokens; what Program hands back. -/
namespace Go.Ky
open Go.Pi Go.Lx
theorem d8J (p:UInt8→Bool):∀ (s:List UInt8) (n:Nat),d0P p s≤n→d0P p (s.take n)=d0P p s
 |[],n,_=>by simp [d0P]
 |c::r,0,h=>by
  rw[d0P] at h
  by_cases hc:p c=true
  ·rw[if_pos hc] at h;omega
  ·rw[d0P,if_neg hc];rfl
 |c::r,n+1,h=>by
  rw[h3M,d0P,d0P]
  rw[d0P] at h
  by_cases hc:p c=true
  ·rw[if_pos hc] at h
   rw[if_pos hc,if_pos hc,d8J p r n (by omega)]
  ·rw[if_neg hc,if_neg hc]
theorem d8K {s:List UInt8} {k m v:Nat} (h:next s=.ok k m v) {n:Nat} (hn:m≤n):next (s.take n)=.ok k m v:=by
 have hp:=d1C h
 match s,n,h with
 |[],_,h=>cases h
 |c::r,0,h=>omega
 |c::r,n+1,h =>
  have ht:∀ j,j≤n+1→((c::r).take (n+1)).take j=(c::r).take j:=fun j hj=>by rw[List.take_take];congr 1;omega
  rw[next] at h
  rw[h3M,next,←h3M]
  by_cases hl:d0L c=true
  ·rw[if_pos hl] at h ⊢
   unfold d0V at h ⊢
   have hm:d0P d0N (c::r)≤n+1:=by
    split at h
    ·injection h with _ h2 _;omega
    ·split at h
     ·cases h
     ·injection h with _ h2 _;omega
   rw[d8J _ _ _ hm,ht _ hm]
   exact h
  ·rw[if_neg hl] at h ⊢
   by_cases hd:d0M c=true
   ·rw[if_pos hd] at h ⊢
    unfold d0W at h ⊢
    have hm:d0P d0M (c::r)≤n+1:=by
     split at h
     ·cases h
     ·split at h
      ·cases h
      ·injection h with _ h2 _;omega
    rw[d8J _ _ _ hm,ht _ hm]
    rw[h3M,List.head?_cons]
    rw[List.head?_cons] at h
    exact h
   ·rw[if_neg hd] at h ⊢
    by_cases hpr:d0S c r=true
    ·rw[if_pos hpr] at h
     injection h with h1 h2 h3
     have:d0S c (r.take n)=true:=by
      match r,n,hpr with
      |[],_,hpr=>cases hpr
      |d::r',0,_=>omega
      |d::r',n'+1,hpr=>exact hpr
     rw[if_pos this,h1,h2,h3]
    ·rw[if_neg hpr] at h
     have:¬d0S c (r.take n)=true:=by
      match r,n,hpr with
      |[],_,_=>simp [d0S]
      |d::r',0,_=>simp [d0S]
      |d::r',n'+1,hpr=>exact hpr
     rw[if_neg this]
     exact h
theorem d8L:∀ (s:List UInt8) (m:Bool) (n:Nat),d0Q m s < n→d0Q m (s.take n)=d0Q m s
 |[],m,n,_=>by simp
 |c::r,m,0,h=>by omega
 |c::r,true,n+1,h=>by
  rw[d0Q] at h
  rw[h3M,d0Q,d0Q,d8L r _ n (by omega)]
 |c::r,false,n+1,h=>by
  rw[d0Q] at h
  rw[h3M,d0Q,d0Q]
  by_cases hb:d0O c=true
  ·rw[if_pos hb] at h
   rw[if_pos hb,if_pos hb,d8L r _ n (by omega)]
  ·rw[if_neg hb] at h
   rw[if_neg hb,if_neg hb]
   by_cases hc:(c == 45&&r.head? == some 45)=true
   ·rw[if_pos hc] at h
    have hc2:(c == 45&&(r.take n).head? == some 45)=true:=by
     match r,n,h,hc with
     |[],_,_,hc=>simp at hc
     |d::r',0,h,_=>omega
     |d::r',n'+1,_,hc=>exact hc
    rw[if_pos hc,if_pos hc2,d8L r _ n (by omega)]
   ·rw[if_neg hc]
    have hc2:¬(c == 45&&(r.take n).head? == some 45)=true:=by
     match r,n,hc with
     |[],_,hc=>simp
     |d::r',0,_=>simp
     |d::r',n'+1,hc=>exact hc
    rw[if_neg hc2]
theorem d8M:∀ (n:Nat) (s:List UInt8) (pos p e:Nat),s.length=n→d0X pos s=.err p e→∃ k l,p=pos+k∧k≤s.length∧d0X pos (s.take k)=.toks l:=by
 intro n
 induction n using Nat.strongRecOn with
 |_ n ih =>
  intro s pos p e hs h
  rcases d1G s with h1|⟨h1,⟨e',hn⟩|⟨k,m,v,hn⟩⟩
  ·rw[d1D h1] at h;cases h
  ·rw[d1E h1 hn] at h
   injection h with h2 h3
   have hg:gap (s.take (gap s))=(s.take (gap s)).length:=by
    rw[h2R]
    have:=d0Z s false
    show d0Q false _=_
    rw[this]
    show gap s=_
    omega
   exact⟨gap s,_,h2.symm,by omega,d1D hg⟩
  ·rw[d1F h1 hn] at h
   have hp:=d1C hn
   have hl:(s.drop (gap s+m)).length < n:=by simp only[h2N] at hp ⊢;omega
   cases hq:d0X (pos+gap s+m) (s.drop (gap s+m)) with
   |toks q=>rw[hq] at h;cases h
   |err p' e'' =>
    rw[hq] at h
    injection h with h2 h3
    obtain⟨k',l',e1,e2,e3⟩:=ih _ hl _ _ _ _ rfl hq
    simp only[h2N] at hp e2
    refine⟨gap s+m+k',⟨k,(s.drop (gap s)).take m,v,pos+gap s⟩::l',by omega,by omega,?_⟩
    have hlen:(s.take (gap s+m+k')).length=gap s+m+k':=by rw[h2R];omega
    have hg:gap (s.take (gap s+m+k'))=gap s:=d8L s false _ (by show gap s < _;omega)
    have hd:(s.take (gap s+m+k')).drop (gap s)=(s.drop (gap s)).take (m+k'):=by
     rw[List.drop_take];congr 1;omega
    have hnx:next ((s.take (gap s+m+k')).drop (gap (s.take (gap s+m+k'))))=.ok k m v:=by
     rw[hg,hd];exact d8K hn (by omega)
    rw[d1F (by rw[hg,hlen];omega) hnx,hg,hd]
    have hd2:(s.take (gap s+m+k')).drop (gap s+m)=(s.drop (gap s+m)).take k':=by
     rw[List.drop_take];congr 1;omega
    rw[hd2,e3,List.take_take]
    have:min m (m+k')=m:=by omega
    rw[this];rfl
def d8N (s:List UInt8):List Tok×Int×Int :=
 if 16384 < s.length then ([⟨0,[],0,0⟩],3,0) else match d0X 0 s with
 |.toks l=>(l,0,0)
 |.err p e=>match d0X 0 (s.take p) with
  |.toks l=>(l,(e:Int),(p:Int))
  |.err _ _=>([],99,0)
theorem d8O (s:List UInt8):WfT (d8N s).1∧(d8N s).1.length≤s.length+1:=by
 unfold d8N
 split
 ·exact⟨⟨by simp,fun t ht=>by simp at ht;subst ht;rfl,fun t ht=>by simp at ht,fun t ht hk=>by simp at ht;subst ht;simp⟩,by simp⟩
 ·cases h:d0X 0 s with
  |toks l =>
   simp only
   exact⟨d8H _ _ _ _ rfl h,d8I _ _ _ _ rfl h⟩
  |err p e =>
   obtain⟨k,l,h1,h2,h3⟩:=d8M _ _ _ _ _ rfl h
   rw[h4C] at h1
   subst h1
   simp only[h3]
   have:=d8I _ _ _ _ rfl h3
   rw[h2R] at this
   exact⟨d8H _ _ _ _ rfl h3,by omega⟩
def zPg:Pg:=⟨true,[],true,[],true,[]⟩
def fuel (l:List Tok):Nat:=12 * l.length+20
theorem d8P {s:List UInt8} (hs:s.length≤16384) {l:List Tok} (h:d0X 0 s=.toks l):d8N s=(l,0,0):=by
 unfold d8N
 rw[if_neg (by omega),h]
end Go.Ky

/- KX 35: what the parser reads is well formed. -/
namespace Go.Ky
open Go.Pi Go.Lx
structure Wv (s:Ps):Prop where
 wf:WfT s.ts
 val:∀ t,t∈s.ts→t.val≤18446744073709551615
 ln:s.ts.length≤100000
theorem Wv.of {s s':Ps} (h:Wv s) (hs:Suf s s'):Wv s':=by
 obtain⟨k,hk,e⟩:=id hs
 exact⟨hs.wf h.wf,fun t ht=>h.val t (by rw[e] at ht;exact h3D ht),h3W hs.le h.ln⟩
theorem Wv.hd {s:Ps} (h:Wv s):s.hd.val≤18446744073709551615:=by
 unfold Ps.hd
 match hts:s.ts,h.wf.ne with
 |a::r,_=>exact h.val a (by rw[hts];simp)
theorem Wv.nm {s:Ps} (h:Wv s) (k1:s.hd.kind=1):s.hd.text.length≤24:=by
 unfold Ps.hd at k1 ⊢
 match hts:s.ts,h.wf.ne with
 |a::r,_ =>
  rw[hts] at k1
  exact h.wf.nam a (by rw[hts];simp) k1
theorem d8Q {n:Int} (h:0≤n) (h':n≤1000):I64 n:=⟨by omega,by omega⟩
theorem d8R:U64 0:=⟨by omega,by omega⟩
theorem d8S:ExpOk zEx:=.mk _ (d8Q (by decide) (by decide)) d8R (by decide) (by decide) (fun _=>rfl) (by intro a ha;cases ha)
theorem d8T {α} {l:List α}:l.isEmpty=true→l=[]:=fun h=>List.isEmpty_iff.1 h
theorem d8U {o:Int} {l:List Exp} (ho:0≤o) (ho':o≤1000) (hl:l.length≤100000000) (h:∀ a,a∈l→ExpOk a):ExpOk (nod o l) :=
 .mk _ (d8Q ho ho') d8R (by show 0≤_;omega) (by show l.length≤_;unfold B47;omega) d8T h
theorem ok_one {a:Exp} (h:ExpOk a):∀ x,x∈[a]→ExpOk x:=by intro x hx;simp at hx;rw[hx];exact h
theorem d8V {a b:Exp} (h:ExpOk a) (h2:ExpOk b):∀ x,x∈[a,b]→ExpOk x:=by
 intro x hx;simp at hx;rcases hx with rfl|rfl <;> assumption
theorem d8W {a b c:Exp} (h:ExpOk a) (h2:ExpOk b) (h3:ExpOk c):∀ x,x∈[a,b,c]→ExpOk x:=by
 intro x hx;simp at hx;rcases hx with rfl|rfl|rfl <;> assumption
theorem d8X {lv:Nat} {s:Ps} {o:Int} (h:opL lv s=some o):0≤o∧o≤1000:=by
 unfold opL at h
 have go:∀ (l:List (Nm×Int)),(∀ p,p∈l→0≤p.2∧p.2≤1000)→d5L s l=some o→0≤o∧o≤1000:=by
  intro l
  induction l with
  |nil=>intro _ h;cases h
  |cons p r ih =>
   obtain⟨t,q⟩:=p
   intro hp h
   rw[d5L] at h
   split at h
   ·cases h;exact hp (t,o) (by simp)
   ·exact ih (fun p hp'=>hp p (by simp [hp'])) h
 refine go _ ?_ h
 match lv with
 |0=>decide
 |1=>decide
 |2=>decide
 |3=>decide
 |4=>decide
 |n+5=>intro p hp;cases hp
structure OkAll (n:Nat):Prop where
 ex:∀ s,Wv s→ExpOk (d5M n s).1
 bi:∀ lv s,Wv s→ExpOk (d5N n lv s).1
 bl:∀ lv e s,ExpOk e→Wv s→ExpOk (d5O n lv e s).1
 un:∀ s,Wv s→ExpOk (unM n s).1
 il:∀ e s,ExpOk e→Wv s→ExpOk (d5P n e s).1
 pr:∀ s,Wv s→ExpOk (d5Q n s).1
 ar:∀ s,Wv s→∀ a,a∈(d5R n s).1→ExpOk a
 ha:∀ s,Wv s→ExpOk (d5S n s).1
 li:∀ s,Wv s→∀ a,a∈(d5T n s).1→ExpOk a
 ll:∀ l s,(∀ a,a∈l→ExpOk a)→Wv s→∀ a,a∈(d5U n l s).1→ExpOk a
theorem d8Y:OkAll 0:=by
 constructor
 ·intro s h;rw[d5M];exact d8S
 ·intro lv s h;rw[d5N];exact d8S
 ·intro lv e s he h;rw[d5O];exact he
 ·intro s h;rw[unM];exact d8S
 ·intro e s he h;rw[d5P];exact he
 ·intro s h;rw[d5Q];exact d8S
 ·intro s h a ha;rw[d5R] at ha;cases ha
 ·intro s h;rw[d5S];exact d8S
 ·intro s h a ha;rw[d5T] at ha;cases ha
 ·intro l s hl h a ha;rw[d5U] at ha;exact hl a ha
theorem d8Z {n:Nat} {s:Ps} (h:Wv s):(d5T n s).1.length≤10000000:=by
 have h1:=((d7F n).li s h.wf).sz
 have h2:=d3F (d5T n s).1
 have:=h.ln
 omega
theorem d9A {n:Nat} {s:Ps} (h:Wv s):(d5R n s).1.length≤10000000:=by
 have h1:=((d7F n).ar s h.wf).sz
 have h2:=d3F (d5R n s).1
 have:=h.ln
 omega
theorem d9B {n:Nat} (ih:OkAll n):OkAll (n+1):=by
 have R:=d7F n
 constructor
 ·intro s h
  rw[d5M]
  have w1:=h.of (R.bi 0 s h.wf).suf
  split
  ·have w2:=w1.of (d6L w1.wf)
   have w3:=w2.of (R.ex _ w2.wf).suf
   have w4:=w3.of (d6O w3.wf [58])
   exact d8U (by decide) (by decide) (by simp) (d8W (ih.bi 0 s h) (ih.ex _ w2) (ih.ex _ w4))
  ·exact ih.bi 0 s h
 ·intro lv s h
  rw[d5N]
  split
  ·exact ih.un s h
  ·exact ih.bl lv _ _ (ih.bi _ s h) (h.of (R.bi (lv+1) s h.wf).suf)
 ·intro lv e s he h
  rw[d5O]
  cases ho:opL lv s with
  |none=>exact he
  |some o =>
   have w2:=h.of (d6L h.wf)
   have w3:=w2.of (R.bi (lv+1) _ w2.wf).suf
   have hs:=d8X ho
   have hN:=d8U (l:=[e,(d5N n (lv+1) (d5F s)).1]) hs.1 hs.2 (by simp) (d8V he (ih.bi (lv+1) _ w2))
   simp only
   split
   ·exact hN
   ·exact ih.bl lv _ _ hN w3
 ·intro s h
  rw[unM]
  split
  ·exact d8U (by decide) (by decide) (by simp) (ok_one (ih.un _ (h.of (d6L h.wf))))
  ·split
   ·exact d8U (by decide) (by decide) (by simp) (ok_one (ih.un _ (h.of (d6L h.wf))))
   ·exact ih.il _ _ (ih.pr s h) (h.of (R.pr s h.wf).suf)
 ·intro e s he h
  rw[d5P]
  split
  ·have w2:=h.of (d6L h.wf)
   have w3:=w2.of (R.ex _ w2.wf).suf
   exact ih.il _ _ (d8U (by decide) (by decide) (by simp) (d8V he (ih.ex _ w2))) (w3.of (d6O w3.wf [93]))
  ·exact he
 ·intro s h
  rw[d5Q]
  by_cases k3:s.hd.kind=3
  ·rw[if_pos k3]
   have hv:=h.hd
   exact .mk _ (d8Q (by show(0:Int)≤1;omega) (by show(1:Int)≤_;omega)) ⟨by show 0≤(s.hd.val:Int);omega,by show(s.hd.val:Int)≤_;omega⟩ (by show 0≤_;omega) (by show 0≤_;omega) (fun _=>rfl) (by intro a ha;cases ha)
  rw[if_neg k3]
  by_cases k1:s.hd.kind=1
  ·rw[if_pos k1]
   have w2:=h.of (d6L h.wf)
   have w3:=w2.of (d6L w2.wf)
   have hn:=h.nm k1
   split
   ·have hl:=d9A (n:=n) w3
    exact .mk _ (d8Q (by show(0:Int)≤5;omega) (by show(5:Int)≤_;omega)) d8R (by show s.hd.text.length≤_;unfold B47;omega) (by show(d5R n (d5F (d5F s))).1.length≤_;unfold B47;omega) d8T (ih.ar _ w3)
   ·exact .mk _ (d8Q (by show(0:Int)≤2;omega) (by show(2:Int)≤_;omega)) d8R (by show s.hd.text.length≤_;unfold B47;omega) (by show 0≤_;omega) (fun _=>rfl) (by intro a ha;cases ha)
  rw[if_neg k1]
  have w2:=h.of (d6L h.wf)
  split
  ·exact d8U (by decide) (by decide) (by simp) (by intro a ha;cases ha)
  split
  ·exact d8U (by decide) (by decide) (by simp) (by intro a ha;cases ha)
  split
  ·exact ih.ha _ w2
  split
  ·exact d8U (by decide) (by decide) (by have:=d8Z (n:=n) w2;omega) (ih.li _ w2)
  split
  ·exact ih.ex _ w2
  ·exact d8S
 ·intro s h
  rw[d5R]
  split
  ·intro a ha;cases ha
  ·exact ih.li s h
 ·intro s h
  rw[d5S]
  have w1:=h.of (d6O h.wf [40])
  split
  ·exact d8S
  ·have w2:=w1.of (d6L w1.wf)
   have w3:=w2.of (d6O w2.wf [59])
   have hv:=w1.hd
   have hl:=d8Z (n:=n) w3
   exact .mk _ (d8Q (by show(0:Int)≤6;omega) (by show(6:Int)≤_;omega)) ⟨by show 0≤((d5H [40] s).hd.val:Int);omega,by show((d5H [40] s).hd.val:Int)≤_;omega⟩ (by show 0≤_;omega) (by show(d5T n _).1.length≤_;unfold B47;omega) d8T (ih.li _ w3)
 ·intro s h
  rw[d5T]
  exact ih.ll _ _ (ok_one (ih.ex s h)) (h.of (R.ex s h.wf).suf)
 ·intro l s hl h
  rw[d5U]
  split
  ·have w2:=h.of (d6L h.wf)
   refine ih.ll _ _ ?_ (w2.of (R.ex _ w2.wf).suf)
   intro a ha
   rcases h2W.1 ha with h1|h1
   ·exact hl a h1
   ·exact ok_one (ih.ex _ w2) a h1
  ·exact hl
theorem d9C:∀ n,OkAll n
 |0=>d8Y
 |n+1=>d9B (d9C n)
end Go.Ky

/- KX 36: statements: sizes, well-formedness. -/
namespace Go.Ky
open Go.Pi Go.Lx
theorem d9D {s:Ps} (h:WfT s.ts):(d5I s).1.length≤24:=by
 unfold d5I
 by_cases k1:s.hd.kind=1
 ·rw[if_neg (fun h=>h k1)]
  show s.hd.text.length≤24
  unfold Ps.hd at k1 ⊢
  match hts:s.ts,h.ne with
  |a::r,_ =>
   rw[hts] at k1
   exact h.nam a (by rw[hts];simp) k1
 ·rw[if_pos k1];exact h4D _
theorem d9E (k:Int) (nm:Nm) (b:Bool) (t:Ty) (e:Exp) (lo hi:Int) (nl:Bool) (l:List St):szS (.mk k nm b t e lo hi nl l)=9+nm.length+szE e+d2Y l:=by
 rw[d3B,d2Z]
 simp only[St.name,St.ex,St.body]
 omega
theorem d9F {n:Nat} {s:Ps} (h:WfT s.ts):Rd s (szS (d5Y n s).1) 37 (d5Y n s).2:=by
 unfold d5Y
 simp only
 have h1:=d6P h
 have w1:=h1.wf h
 have hT:Suf (d5I s).2 (if atM [58] (d5I s).2=true then tyM (d5F (d5I s).2) else (zTy,(d5I s).2)).2:=by
  split
  ·have h2:=d6L w1
   exact h2.trans (d6U (h2.wf w1))
  ·exact .refl w1
 have w2:=hT.wf w1
 have h3:=d6O w2 [61]
 have w3:=h3.wf w2
 have h4:=(d7F n).ex _ w3
 have w4:=h4.suf.wf w3
 have h5:=d6O w4 [59]
 refine⟨(((h1.trans hT).trans h3).trans h4.suf).trans h5,?_⟩
 have a1:=((h1.trans hT).trans h3).le
 have a4:=h4.sz
 have a5:=h5.le
 have an:=d9D h
 rw[d9E]
 show 9+_+_+0+_≤_
 omega
theorem d9G {n:Nat} {s:Ps} (h:WfT s.ts):Rd s (szS (d5Z n s).1) 13 (d5Z n s).2:=by
 unfold d5Z
 simp only
 have h4:=(d7F n).ex s h
 have w4:=h4.suf.wf h
 have h5:=d6O w4 [59]
 refine⟨h4.suf.trans h5,?_⟩
 have a4:=h4.sz
 have a5:=h5.le
 rw[d9E]
 show 9+0+_+0+_≤_
 omega
theorem d9H (a b:List St):d2Y (a++b)=d2Y a+d2Y b:=by
 induction a with
 |nil=>rw[h3G];show _=0+_;omega
 |cons x r ih=>rw[h1L,d3C,d3C,ih];omega
theorem d9I (a:St):d2Y [a]=szS a:=by rw[d3C];show _+0=_;omega
theorem d9J {s:Ps} (h:atS s=true):s.hd.kind≠0:=by
 unfold atS at h
 simp only[h0Y] at h
 rcases h with h|h|h <;> exact d6M h
structure RdS (n:Nat):Prop where
 st:∀ s,WfT s.ts→s.hd.kind≠0→Suf s (d6A n s).2∧(1≤n→szS (d6A n s).1+64 * (d6A n s).2.ts.length≤64 * s.ts.length)
 bd:∀ o l s,WfT s.ts→Rd s (d2Y (d6B n o l s).1) (d2Y l+13) (d6B n o l s).2
theorem d9K:RdS 0:=by
 constructor
 ·intro s h hk;rw[d6A];exact⟨.refl h,fun h=>absurd h (by omega)⟩
 ·intro o l s h;rw[d6B];exact⟨.refl h,by simp only;omega⟩
theorem d9L {n:Nat} (ih:RdS n):RdS (n+1):=by
 constructor
 ·intro s h hk
  rw[d6A]
  have h2:=d6L h
  have w2:=h2.wf h
  have l2:=d6N h hk
  have hz:szS (.mk 0 [] false zTy zEx 0 0 true [])=13:=by rw[d9E,d7B];rfl
  split
  ·have h3:=d9F (n:=n) w2
   have a3:=h3.sz
   exact⟨h2.trans h3.suf,fun _=>by omega⟩
  split
  ·have h3:=d9G (n:=n) w2
   have a3:=h3.sz
   exact⟨h2.trans h3.suf,fun _=>by omega⟩
  split
  ·simp only
   have h3:=d6P w2
   have w3:=h3.wf w2
   have h4:=d6O w3 [105,110]
   have w4:=h4.wf w3
   have h5:=d6Q w4 0 1000000
   have w5:=h5.wf w4
   have h6:=d6O w5 [46,46]
   have w6:=h6.wf w5
   have h7:=d6Q w6 0 1000000
   have w7:=h7.wf w6
   have h8:=d6O w7 [123]
   have w8:=h8.wf w7
   have h9:=ih.bd false [] _ w8
   have w9:=h9.suf.wf w8
   have h10:=d6O w9 [125]
   have hh:=((((h3.trans h4).trans h5).trans h6).trans h7).trans h8
   refine⟨((h2.trans hh).trans h9.suf).trans h10,fun _=>?_⟩
   have a1:=hh.le
   have a9:=h9.sz
   have a10:=h10.le
   have an:=d9D w2
   have z0:d2Y []=0:=rfl
   rw[d9E,d7B]
   omega
  ·refine⟨h2,fun _=>?_⟩
   show szS (.mk 0 [] false zTy zEx 0 0 true [])+_≤_
   rw[hz]
   simp only
   omega
 ·intro o l s h
  rw[d6B]
  split
  ·rename_i ha
   have h2:=ih.st s h (d9J ha)
   have w2:=h2.1.wf h
   have h3:Suf (d6A n s).2 (if o=true then d5K s.hd.pos (d5X (d6A n s).1) (d6A n s).2 else (d6A n s).2):=by
    split
    ·exact d6S w2 _ _
    ·exact .refl w2
   have w3:=h3.wf w2
   have h4:=ih.bd o (l++[(d6A n s).1]) _ w3
   refine⟨(h2.1.trans h3).trans h4.suf,?_⟩
   have a3:=h3.le
   have a4:=h4.sz
   rw[d9H,d9I] at a4
   rcases h3R n with rfl|hn
   ·rw[d6B] at a4 ⊢
    have e0:(d6A 0 s).1=.mk 0 [] false zTy zEx 0 0 true []:=by rw[d6A]
    have hz:szS (d6A 0 s).1=13:=by rw[e0,d9E,d7B];rfl
    have l2:=h2.1.le
    simp only[d9H,d9I] at a4 ⊢
    omega
   ·have a2:=h2.2 hn
    omega
  ·exact⟨.refl h,by simp only;omega⟩
theorem d9M:∀ n,RdS n
 |0=>d9K
 |n+1=>d9L (d9M n)
end Go.Ky

/- KX 37: statements that are read are well formed. -/
namespace Go.Ky
open Go.Pi Go.Lx
theorem d9N (lo:Nat) {hi:Nat} (hh:hi≤1000000) (s:Ps):I64 (d5J lo hi s).1:=by
 unfold d5J
 split
 ·exact d8Q (by show(0:Int)≤0;omega) (by show(0:Int)≤_;omega)
 ·split
  ·exact d8Q (by show(0:Int)≤0;omega) (by show(0:Int)≤_;omega)
  ·rename_i h
   show I64 (IntKind.wrap .i64 (s.hd.val:Int))
   rw[IntWalk.i64_in _ (by omega)]
   exact⟨by omega,by omega⟩
theorem d9O:d2U zTy:=⟨d8Q (by decide) (by decide),d8Q (by decide) (by decide),d8Q (by decide) (by decide)⟩
theorem d9P (s:Ps):d2U (d5V s).1:=by
 have z:∀ k:Int,0≤k→k≤1000→I64 k:=fun k=>d8Q
 unfold d5V
 split
 ·exact⟨z 1 (by decide) (by decide),z 0 (by decide) (by decide),z 0 (by decide) (by decide)⟩
 split
 ·exact⟨z 2 (by decide) (by decide),z 0 (by decide) (by decide),z 0 (by decide) (by decide)⟩
 split
 ·exact⟨z 3 (by decide) (by decide),d9N 1 (by decide) _,z 0 (by decide) (by decide)⟩
 ·exact⟨z 0 (by decide) (by decide),z 0 (by decide) (by decide),z 0 (by decide) (by decide)⟩
theorem d9Q (s:Ps):d2U (tyM s).1:=by
 have h:=d9P s
 unfold tyM
 split
 ·exact⟨h.1,h.2.1,d9N 1 (by decide) _⟩
 ·exact h
theorem d9R {k lo hi:Int} {nm:Nm} {b:Bool} {t:Ty} {e:Exp} {nl:Bool} {l:List St} (hk:0≤k) (hk':k≤1000) (hn:nm.length≤24) (ht:d2U t) (he:ExpOk e) (h5:I64 lo) (h6:I64 hi) (hl:l.length≤100000000) (hnl:nl=true→l=[]) (h:∀ a,a∈l→StOk a):StOk (.mk k nm b t e lo hi nl l) :=
 .mk _ (d8Q hk hk') (by show nm.length≤_;unfold B47;omega) ht he h5 h6 (by show l.length≤_;unfold B47;omega) hnl h
theorem d9S:I64 0:=d8Q (by decide) (by decide)
theorem d9T:StOk (.mk 0 [] false zTy zEx 0 0 true []):=d9R (by decide) (by decide) (by decide) d9O d8S d9S d9S (by decide) (fun _=>rfl) (by intro a ha;cases ha)
theorem d9U {n:Nat} {s:Ps} (h:Wv s):StOk (d5Y n s).1:=by
 unfold d5Y
 simp only
 have w1:=h.of (d6P h.wf)
 have hT:Suf (d5I s).2 (if atM [58] (d5I s).2=true then tyM (d5F (d5I s).2) else (zTy,(d5I s).2)).2:=by
  split
  ·have h2:=d6L w1.wf
   exact h2.trans (d6U (h2.wf w1.wf))
  ·exact .refl w1.wf
 have w2:=w1.of hT
 have w3:=w2.of (d6O w2.wf [61])
 refine d9R (by decide) (by decide) (d9D h.wf) ?_ ((d9C n).ex _ w3) d9S d9S (by decide) (fun _=>rfl) (by intro a ha;cases ha)
 split
 ·exact d9Q _
 ·exact d9O
theorem d9V {n:Nat} {s:Ps} (h:Wv s):StOk (d5Z n s).1 :=
 d9R (by decide) (by decide) (by decide) d9O ((d9C n).ex _ h) d9S d9S (by decide) (fun _=>rfl) (by intro a ha;cases ha)
structure OkS (n:Nat):Prop where
 st:∀ s,Wv s→s.hd.kind≠0→StOk (d6A n s).1
 bd:∀ o l s,(∀ a,a∈l→StOk a)→Wv s→∀ a,a∈(d6B n o l s).1→StOk a
theorem d9W:OkS 0:=by
 constructor
 ·intro s h hk;rw[d6A];exact d9T
 ·intro o l s hl h;rw[d6B];exact hl
theorem d9X {n:Nat} {o:Bool} {s:Ps} (h:Wv s):(d6B n o [] s).1.length≤10000000:=by
 have h1:=((d9M n).bd o [] s h.wf).sz
 have h2:=d3G (d6B n o [] s).1
 have:=h.ln
 have z0:d2Y []=0:=rfl
 omega
theorem d9Y {n:Nat} (ih:OkS n):OkS (n+1):=by
 constructor
 ·intro s h hk
  rw[d6A]
  have w2:=h.of (d6L h.wf)
  split
  ·exact d9U w2
  split
  ·exact d9V w2
  split
  ·simp only
   have w3:=w2.of (d6P w2.wf)
   have w4:=w3.of (d6O w3.wf [105,110])
   have w5:=w4.of (d6Q w4.wf 0 1000000)
   have w6:=w5.of (d6O w5.wf [46,46])
   have w7:=w6.of (d6Q w6.wf 0 1000000)
   have w8:=w7.of (d6O w7.wf [123])
   have hl:=d9X (n:=n) (o:=false) w8
   exact d9R (by decide) (by decide) (d9D w2.wf) d9O d8S (d9N 0 (by decide) _) (d9N 0 (by decide) _) (by omega) d8T (ih.bd false [] _ (by intro a ha;cases ha) w8)
  ·exact d9T
 ·intro o l s hl h
  rw[d6B]
  split
  ·rename_i ha
   have hk:=d9J ha
   have w2:=h.of ((d9M n).st s h.wf hk).1
   have h3:Suf (d6A n s).2 (if o=true then d5K s.hd.pos (d5X (d6A n s).1) (d6A n s).2 else (d6A n s).2):=by
    split
    ·exact d6S w2.wf _ _
    ·exact .refl w2.wf
   refine ih.bd o _ _ ?_ (w2.of h3)
   intro a hm
   rcases h2W.1 hm with h1|h1
   ·exact hl a h1
   ·rw[h3F] at h1
    rw[h1];exact ih.st s h hk
  ·exact hl
theorem d9Z:∀ n,OkS n
 |0=>d9W
 |n+1=>d9Y (d9Z n)
end Go.Ky

/- KX 38: functions, declarations, programs: tokens left; tokens' values. -/
namespace Go.Ky
open Go.Pi Go.Lx
theorem e0A:∀ (n:Nat) (l:List Pa) (s:Ps),WfT s.ts→Suf s (d6C n l s).2
 |0,l,s,h=>by rw[d6C];exact .refl h
 |n+1,l,s,h=>by
  rw[d6C]
  split
  ·have h2:=d6L h
   have h3:=d6V (h2.wf h)
   exact(h2.trans h3).trans (e0A n _ _ ((h2.trans h3).wf h))
  ·exact .refl h
theorem e0B (n:Nat) {s:Ps} (h:WfT s.ts):Suf s (d6D n s).2:=by
 unfold d6D
 split
 ·exact .refl h
 ·have h3:=d6V h
  exact h3.trans (e0A n _ _ (h3.wf h))
theorem e0C {n:Nat} {s:Ps} (h:WfT s.ts):Suf (d5H [102,110] s) (fnM n s).2:=by
 unfold fnM
 simp only
 have w0:=(d6O h [102,110]).wf h
 have h1:=d6P w0
 have w1:=h1.wf w0
 have h2:=d6O w1 [40]
 have w2:=h2.wf w1
 have h3:=e0B n w2
 have w3:=h3.wf w2
 have h4:=d6O w3 [41]
 have w4:=h4.wf w3
 have h5:=d6O w4 [58]
 have w5:=h5.wf w4
 have h6:=d6U w5
 have w6:=h6.wf w5
 have h7:=d6O w6 [123]
 have w7:=h7.wf w6
 have h8:=((d9M n).bd true [] _ w7).suf
 have w8:=h8.wf w7
 have h9:=d6O w8 [114,101,116,117,114,110]
 have w9:=h9.wf w8
 have h10:=((d7F n).ex _ w9).suf
 have w10:=h10.wf w9
 have h11:=fun p b=>d6S w10 p b
 have h12:=fun p b=>d6O ((h11 p b).wf w10) [59]
 have h13:=fun p b=>d6O ((h12 p b).wf ((h11 p b).wf w10)) [125]
 exact((((((((((h1.trans h2).trans h3).trans h4).trans h5).trans h6).trans h7).trans h8).trans h9).trans h10).trans (h11 _ _)).trans ((h12 _ _).trans (h13 _ _))
theorem e0D {n:Nat} {s:Ps} (h:WfT s.ts) (ha:atM [102,110] s=true):(fnM n s).2.ts.length+1≤s.ts.length:=by
 have h1:=(e0C (n:=n) h).le
 have e:d5H [102,110] s=d5F s:=by unfold d5H;rw[if_pos ha]
 have h2:=d6N h (d6M ha)
 rw[e] at h1
 omega
theorem e0E {n:Nat} {s:Ps} (h:WfT s.ts):Suf s (fnM n s).2:=(d6O h [102,110]).trans (e0C h)
theorem e0F {s:Ps} (h:WfT s.ts):Suf (d5F s) (d6E s).2:=by
 unfold d6E
 simp only
 have w0:=(d6L h).wf h
 have h1:=d6P w0
 have w1:=h1.wf w0
 have h2:=d6O w1 [58]
 have w2:=h2.wf w1
 have h3:=d6U w2
 have w3:=h3.wf w2
 exact((h1.trans h2).trans h3).trans (d6O w3 [59])
theorem e0G {s:Ps} (h:WfT s.ts) (ha:s.hd.kind≠0):(d6E s).2.ts.length+1≤s.ts.length:=by
 have h1:=(e0F h).le
 have h2:=d6N h ha
 omega
theorem e0H {s:Ps} (h:WfT s.ts):Suf s (d6E s).2:=(d6L h).trans (e0F h)
theorem e0I {s:List UInt8} {k m v:Nat} (h:next s=.ok k m v):v≤18446744073709551615:=by
 match s with
 |[]=>cases h
 |c::r =>
  rw[next] at h
  unfold d0V d0W at h
  repeat' split at h
  all_goals first|(injection h with h1 h2 h3;omega)|cases h
theorem e0J:∀ (n:Nat) (s:List UInt8) (pos:Nat) (l:List Tok),s.length=n→d0X pos s=.toks l→∀ t,t∈l→t.val≤18446744073709551615:=by
 intro n
 induction n using Nat.strongRecOn with
 |_ n ih =>
  intro s pos l hs h t ht
  rcases d1G s with h1|⟨h1,⟨e,hn⟩|⟨k,m,v,hn⟩⟩
  ·rw[d1D h1] at h
   injection h with h
   subst h
   rw[h3F] at ht
   subst ht
   exact h4D _
  ·rw[d1E h1 hn] at h;cases h
  ·rw[d1F h1 hn] at h
   have hp:=d1C hn
   cases hq:d0X (pos+gap s+m) (s.drop (gap s+m)) with
   |err p e=>rw[hq] at h;cases h
   |toks q =>
    rw[hq] at h
    injection h with h
    subst h
    rcases h2X.1 ht with e|e
    ·subst e;exact e0I hn
    ·exact ih (s.drop (gap s+m)).length (by simp only[h2N] at hp ⊢;omega) _ _ q rfl hq t e
theorem e0K (s:List UInt8):Wv (st0 (d8N s).1)∧(d8N s).1.length≤16400:=by
 have hw:=d8O s
 have hl:(d8N s).1.length≤16400:=by
  by_cases hb:16384 < s.length
  ·unfold d8N;rw[if_pos hb];show 1≤_;omega
  ·have:=hw.2;omega
 refine⟨⟨hw.1,?_,by show(d8N s).1.length≤_;omega⟩,hl⟩
 show ∀ t,t∈(d8N s).1→_
 unfold d8N
 split
 ·intro t ht;simp only[h3F] at ht;subst ht;exact h4D _
 ·cases h:d0X 0 s with
  |toks l=>exact e0J _ _ _ _ rfl h
  |err p e =>
   simp only
   cases h3:d0X 0 (s.take p) with
   |toks l=>exact e0J _ _ _ _ rfl h3
   |err _ _=>intro t ht;cases ht
def prN (n:Nat) (s:List UInt8):Pg×Int×Int :=
 if (d6I (d8N s).2.1 (d8N s).2.2 (d6J n (st0 (d8N s).1)).2).2≠0
 then (zPg,d6I (d8N s).2.1 (d8N s).2.2 (d6J n (st0 (d8N s).1)).2)
 else ((d6J n (st0 (d8N s).1)).1,0,0)
def exF (n:Nat) (l:List Tok):Ps:=d5K (st0 l).hd.pos (decide ((dEx (d5M n (st0 l)).1:Int) > 40)) (d6H (d5M n (st0 l)).2)
def exN (n:Nat) (s:List UInt8):Exp×Int×Int :=
 if (d6I (d8N s).2.1 (d8N s).2.2 (exF n (d8N s).1)).2≠0 then (zEx,d6I (d8N s).2.1 (d8N s).2.2 (exF n (d8N s).1))
 else ((d5M n (st0 (d8N s).1)).1,0,0)
end Go.Ky

/- KX 45: the length of the tokens' texts. -/
namespace Go.Ky
open Go.Pi Go.Lx
def e0L (l:List Tok):Nat:=(l.map fun t=>t.text.length).sum
theorem e0M:∀ (n:Nat) (s:List UInt8) (pos:Nat) (l:List Tok),s.length=n→d0X pos s=.toks l→e0L l≤s.length:=by
 intro n
 induction n using Nat.strongRecOn with
 |_ n ih =>
  intro s pos l hl h
  rcases d1G s with h1|⟨h1,⟨e,hn⟩|⟨k,m,v,hn⟩⟩
  ·rw[d1D h1] at h
   injection h with h;subst h;simp [e0L]
  ·rw[d1E h1 hn] at h;cases h
  ·have hp:=d1C hn
   rw[d1F h1 hn] at h
   cases hq:d0X (pos+gap s+m) (s.drop (gap s+m)) with
   |err p e=>rw[hq] at h;cases h
   |toks q =>
    rw[hq] at h
    have:=ih (s.drop (gap s+m)).length (by simp only[h2N] at hp ⊢;omega) _ _ q rfl hq
    injection h with h
    subst h
    simp only[e0L,h2U,h3K,h2R,h2N] at hp this ⊢
    omega
theorem e0N {s:List UInt8} {e:Nat} (h:next s=.err e):e=2∨e=3:=by
 cases s with
 |nil=>simp only[next] at h;injection h with h;exact .inl h.symm
 |cons c r =>
  simp only[next,d0V,d0W] at h
  repeat' split at h
  all_goals first|(injection h with h;omega)|cases h
theorem e0O:∀ (n:Nat) (s:List UInt8) (pos p e:Nat),s.length=n→d0X pos s=.err p e→p < pos+s.length∧(e=2∨e=3):=by
 intro n
 induction n using Nat.strongRecOn with
 |_ n ih =>
  intro s pos p e hs h
  rcases d1G s with h1|⟨h1,⟨e',hn⟩|⟨k,m,v,hn⟩⟩
  ·rw[d1D h1] at h;cases h
  ·rw[d1E h1 hn] at h
   injection h with h2 h3
   have:=e0N hn
   exact⟨by omega,by omega⟩
  ·rw[d1F h1 hn] at h
   have hp:=d1C hn
   have hdl:(s.drop (gap s)).length=s.length - gap s:=h2N
   have hdl2:(s.drop (gap s+m)).length=s.length - (gap s+m):=h2N
   cases hq:d0X (pos+gap s+m) (s.drop (gap s+m)) with
   |toks q=>rw[hq] at h;cases h
   |err p' e'' =>
    rw[hq] at h
    injection h with h2 h3
    obtain⟨a,b⟩:=ih _ (by omega) _ _ _ _ rfl hq
    exact⟨by omega,by rw[←h3];exact b⟩
end Go.Ky

/- KX 39: places of errors: the parser's steps as computations that keep what is known. No program in sight. -/
namespace Go.Ky
open Go.Pi Go.Lx
structure Inv (A:List Tok) (s:Ps):Prop where
 ne:s.ts≠[]
 mem:∀ t,t∈s.ts→t∈A
 er:s.err=0∨((s.err=2∨s.err=3)∧∃ t,t∈A∧s.pos=(t.pos:Int)∧(s.err=3→t.kind≠0))
 dp:s.deep=true→s.err=0→∃ t,t∈A∧s.dat=(t.pos:Int)∧t.kind≠0
structure Af (n:Nat) (s:Ps):Prop where
 ts:s.ts=[⟨0,[],0,n⟩]
 er:s.err=0∨(s.err=2∧s.pos=(n:Int))
structure Syn (n:Nat) (rest:List Tok) (r:List Tok) (a b:Ps):Prop where
 ne:r≠[]
 ps:∀ t,t∈r→t.pos≠n
 ta:a.ts=r++rest
 tb:b.ts=r++[⟨0,[],0,n⟩]
 ea:a.err=0
 eb:b.err=0
def Bad (n:Nat) (a:Ps):Prop:=a.err≠0∧a.pos≠(n:Int)
abbrev Pm (α:Type):=Ps→α×Ps
def Rv {α:Type} (n:Nat) (rest:List Tok) (x y:α×Ps):Prop:=(x.1=y.1∧∃ r,Syn n rest r x.2 y.2)∨Af n y.2∨Bad n x.2
structure Gd {α:Type} (p:Ps→Prop) (m:Pm α):Prop where
 inv:∀ A s,Inv A s→p s→Inv A (m s).2
 err:∀ s,p s→s.err≠0→(m s).2.err=s.err∧(m s).2.pos=s.pos
 af:∀ n s,Af n s→p s→Af n (m s).2
 sy:∀ n rest r a b,rest≠[]→Syn n rest r a b→p a→p b→Rv n rest (m a) (m b)
def tt (_:Ps):Prop:=True
def ret {α:Type} (v:α):Pm α:=fun s=>(v,s)
def bnd {α β:Type} (m:Pm α) (k:α→Pm β):Pm β:=fun s=>k (m s).1 (m s).2
def e0P {α:Type} (c:Tok→Bool) (m k:Pm α):Pm α:=fun s=>if c s.hd=true then m s else k s
theorem e0Q {α:Type} {p q:Ps→Prop} {m:Pm α} (h:Gd p m) (hq:∀ s,q s→p s):Gd q m :=
 ⟨fun A s i j=>h.inv A s i (hq s j),fun s j=>h.err s (hq s j),fun n s i j=>h.af n s i (hq s j),fun n rest r a b hr i j k=>h.sy n rest r a b hr i (hq a j) (hq b k)⟩
theorem e0R {α:Type} {p:Ps→Prop} (v:α):Gd p (ret v) :=
 ⟨fun A s i _=>i,fun s _ _=>⟨rfl,rfl⟩,fun n s i _=>i,fun n rest r a b _ i _ _=>.inl ⟨rfl,r,i⟩⟩
theorem e0S {α:Type} {p:Ps→Prop} {m:Pm α} (h:Gd p m) {n:Nat} {a:Ps} (hp:p a) (hb:Bad n a):Bad n (m a).2:=by
 obtain⟨e1,e2⟩:=h.err a hp hb.1
 exact⟨by rw[e1];exact hb.1,by rw[e2];exact hb.2⟩
theorem e0T {α β:Type} {p:Ps→Prop} {m:Pm α} {k:α→Pm β} (h:Gd p m) (hk:∀ v,Gd tt (k v)):Gd p (bnd m k):=by
 refine⟨fun A s i j=>(hk _).inv A _ (h.inv A s i j) trivial,fun s j e=>?_,fun n s i j=>(hk _).af n _ (h.af n s i j) trivial,fun n rest r a b hr i j l=>?_⟩
 ·obtain⟨e1,e2⟩:=h.err s j e
  obtain⟨e3,e4⟩:=(hk (m s).1).err (m s).2 trivial (by rw[e1];exact e)
  exact⟨e3.trans e1,e4.trans e2⟩
 ·rcases h.sy n rest r a b hr i j l with⟨e,r',i'⟩|i'|i'
  ·show Rv n rest (k (m a).1 (m a).2) (k (m b).1 (m b).2)
   rw[e]
   exact(hk _).sy n rest r' _ _ hr i' trivial trivial
  ·exact .inr (.inl ((hk _).af n _ i' trivial))
  ·exact .inr (.inr (e0S (hk _) trivial i'))
theorem e0U {n:Nat} {rest r:List Tok} {a b:Ps} (h:Syn n rest r a b):∃ t r',r=t::r'∧a.hd=t∧b.hd=t∧t.pos≠n:=by
 match r,h.ne with
 |t::r',_ =>
  refine⟨t,r',rfl,?_,?_,h.ps t (by simp)⟩
  ·unfold Ps.hd;rw[h.ta];rfl
  ·unfold Ps.hd;rw[h.tb];rfl
theorem e0V {α:Type} {p:Ps→Prop} {c:Tok→Bool} {m k:Pm α} (hm:Gd (fun s=>p s∧c s.hd=true) m) (hk:Gd (fun s=>p s∧c s.hd=false) k):Gd p (e0P c m k):=by
 refine⟨fun A s i j=>?_,fun s j e=>?_,fun n s i j=>?_,fun n rest r a b hr i j l=>?_⟩
 ·unfold e0P
  cases hc:c s.hd with
  |true=>exact hm.inv A s i ⟨j,hc⟩
  |false=>exact hk.inv A s i ⟨j,hc⟩
 ·unfold e0P
  cases hc:c s.hd with
  |true=>exact hm.err s ⟨j,hc⟩ e
  |false=>exact hk.err s ⟨j,hc⟩ e
 ·unfold e0P
  cases hc:c s.hd with
  |true=>exact hm.af n s i ⟨j,hc⟩
  |false=>exact hk.af n s i ⟨j,hc⟩
 ·obtain⟨t,r',-,e1,e2,-⟩:=e0U i
  unfold e0P
  rw[e1,e2]
  cases hc:c t with
  |true=>exact hm.sy n rest r a b hr i ⟨j,by rw[e1,hc]⟩ ⟨l,by rw[e2,hc]⟩
  |false=>exact hk.sy n rest r a b hr i ⟨j,by rw[e1,hc]⟩ ⟨l,by rw[e2,hc]⟩
def hdB {α:Type} (k:Tok→Pm α):Pm α:=fun s=>k s.hd s
theorem e0W {α:Type} {p:Ps→Prop} {k:Tok→Pm α} (h:∀ t,Gd (fun s=>p s∧s.hd=t) (k t)):Gd p (hdB k):=by
 refine⟨fun A s i j=>(h _).inv A s i ⟨j,rfl⟩,fun s j e=>(h _).err s ⟨j,rfl⟩ e,fun n s i j=>(h _).af n s i ⟨j,rfl⟩,fun n rest r a b hr i j l=>?_⟩
 obtain⟨t,r',-,e1,e2,-⟩:=e0U i
 unfold hdB
 rw[e1,e2]
 exact(h t).sy n rest r a b hr i ⟨j,e1⟩ ⟨l,e2⟩
theorem e0X {s:Ps} (h:s.ts≠[]):s.hd∈s.ts:=by
 unfold Ps.hd
 match s.ts,h with
 |a::r,_=>simp
def e0Y:Pm Unit:=fun s=>((),d5F s)
theorem e0Z {p:Ps→Prop}:Gd p e0Y:=by
 refine⟨fun A s i _=>?_,fun s _ _=>⟨rfl,rfl⟩,fun n s i _=>?_,fun n rest r a b hr i _ _=>?_⟩
 ·refine⟨?_,?_,i.er,i.dp⟩
  ·show(if 1 < s.ts.length then s.ts.drop 1 else s.ts)≠[]
   split
   ·intro e;have:=congrArg List.length e;simp only[h2N,h2P] at this;omega
   ·exact i.ne
  ·intro t ht
   change t∈(if 1 < s.ts.length then s.ts.drop 1 else s.ts) at ht
   split at ht
   ·exact i.mem t (h3D ht)
   ·exact i.mem t ht
 ·refine⟨?_,i.er⟩
  show(if 1 < s.ts.length then s.ts.drop 1 else s.ts)=_
  rw[i.ts,if_neg (by simp)]
 ·obtain⟨t,r',e,-,-,-⟩:=e0U i
  subst e
  match rest,hr with
  |x::rest',_ =>
  have ta:(d5F a).ts=r'++x::rest':=by
   show(if 1 < a.ts.length then a.ts.drop 1 else a.ts)=_
   rw[i.ta,if_pos (by simp only[h2L,h2M];omega)];rfl
  have tb:(d5F b).ts=r'++[⟨0,[],0,n⟩]:=by
   show(if 1 < b.ts.length then b.ts.drop 1 else b.ts)=_
   rw[i.tb,if_pos (by simp)];rfl
  match r' with
  |[]=>exact .inr (.inl ⟨tb,.inl i.eb⟩)
  |u::r''=>exact .inl ⟨rfl,u::r'',by simp,fun t ht=>i.ps t (h2Y _ ht),ta,tb,i.ea,i.eb⟩
def e1A (e:Int):Pm Unit:=fun s=>((),d5E e s)
theorem e1B {p:Ps→Prop} {e:Int} (he:e=2∨(e=3∧∀ s,p s→s.hd.kind≠0)):Gd p (e1A e):=by
 have h0:e≠0:=by rcases he with h|h <;> omega
 refine⟨fun A s i j=>?_,fun s _ h=>?_,fun n s i j=>?_,fun n rest r a b hr i _ _=>?_⟩
 ·refine⟨?_,fun t ht=>i.mem t (h3D ht),?_,fun _ h=>?_⟩
  ·show s.ts.drop (s.ts.length - 1)≠[]
   intro h
   have:=congrArg List.length h
   have h1:=List.length_pos_iff.2 i.ne
   simp only[h2N,h2P] at this;omega
  ·show(if s.err=0 then e else s.err)=0∨(((if s.err=0 then e else s.err)=2∨(if s.err=0 then e else s.err)=3)∧∃ t,t∈A∧(if s.err=0 then (s.hd.pos:Int) else s.pos)=(t.pos:Int)∧((if s.err=0 then e else s.err)=3→t.kind≠0))
   by_cases hs:s.err=0
   ·simp only[if_pos hs]
    refine .inr ⟨by rcases he with h|h;exact .inl h;exact .inr h.1,s.hd,i.mem _ (e0X i.ne),rfl,fun h=>?_⟩
    rcases he with h'|h'
    ·omega
    ·exact h'.2 s j
   ·simp only[if_neg hs]
    exact i.er
  ·exfalso
   change (if s.err=0 then e else s.err)=0 at h
   split at h
   ·exact h0 h
   ·rename_i hs;exact hs h
 ·exact⟨by show(if s.err=0 then e else s.err)=_;rw[if_neg h],by show(if s.err=0 then (s.hd.pos:Int) else s.pos)=_;rw[if_neg h]⟩
 ·refine⟨?_,?_⟩
  ·show s.ts.drop (s.ts.length - 1)=_
   rw[i.ts];rfl
  ·show(if s.err=0 then e else s.err)=0∨(if s.err=0 then e else s.err)=2∧(if s.err=0 then (s.hd.pos:Int) else s.pos)=_
   have hh:s.hd=⟨0,[],0,n⟩:=by unfold Ps.hd;rw[i.ts];rfl
   rcases i.er with h|h
   ·simp only[if_pos h]
    rcases he with h'|h'
    ·exact .inr ⟨h',by rw[hh]⟩
    ·exact absurd (by rw[hh]) (h'.2 s j)
   ·simp only[if_neg (show s.err≠0 by omega)]
    exact .inr h
 ·obtain⟨t,r',_,e1,_,e3⟩:=e0U i
  refine .inr (.inr ⟨?_,?_⟩)
  ·show(if a.err=0 then e else a.err)≠0
   rw[if_pos i.ea];exact h0
  ·show(if a.err=0 then (a.hd.pos:Int) else a.pos)≠_
   rw[if_pos i.ea,e1]
   omega
def e1C {α:Type} (m:Pm α) (d:α→Bool):Pm α:=fun s=>((m s).1,d5K s.hd.pos (d (m s).1) (m s).2)
theorem e1D (pos:Int) (b:Bool) (s:Ps):(d5K pos b s).err=s.err∧(d5K pos b s).pos=s.pos:=by
 unfold d5K
 split <;> exact⟨rfl,rfl⟩
theorem e1E {α:Type} {p:Ps→Prop} {m:Pm α} {d:α→Bool} (h:Gd p m) (hg:∀ s,p s→s.hd.kind≠0∨(m s).2.err≠0):Gd p (e1C m d):=by
 refine⟨fun A s i j=>?_,fun s j e=>?_,fun n s i j=>?_,fun n rest r a b hr i j l=>?_⟩
 ·have q:=h.inv A s i j
  obtain⟨e1,e2⟩:=e1D s.hd.pos (d (m s).1) (m s).2
  refine⟨by show(d5K _ _ _).ts≠[];rw[d6R];exact q.ne,by show ∀ t,t∈(d5K _ _ _).ts→_;rw[d6R];exact q.mem,?_,?_⟩
  ·show(d5K _ _ _).err=0∨_
   simp only[e1C,e1,e2]
   exact q.er
  ·show(d5K s.hd.pos (d (m s).1) (m s).2).deep=true→(d5K s.hd.pos (d (m s).1) (m s).2).err=0→∃ t,t∈A∧(d5K s.hd.pos (d (m s).1) (m s).2).dat=_∧_
   rw[e1]
   unfold d5K
   split
   ·intro _ h0
    rcases hg s j with h1|h1
    ·exact⟨s.hd,i.mem _ (e0X i.ne),rfl,h1⟩
    ·exact absurd h0 h1
   ·exact q.dp
 ·obtain⟨e1,e2⟩:=e1D s.hd.pos (d (m s).1) (m s).2
  obtain⟨e3,e4⟩:=h.err s j e
  exact⟨e1.trans e3,e2.trans e4⟩
 ·have q:=h.af n s i j
  obtain⟨e1,e2⟩:=e1D s.hd.pos (d (m s).1) (m s).2
  refine⟨by show(d5K _ _ _).ts=_;rw[d6R];exact q.ts,?_⟩
  show(d5K _ _ _).err=0∨_
  simp only[e1C,e1,e2]
  exact q.er
 ·obtain⟨a1,a2⟩:=e1D a.hd.pos (d (m a).1) (m a).2
  obtain⟨b1,b2⟩:=e1D b.hd.pos (d (m b).1) (m b).2
  rcases h.sy n rest r a b hr i j l with⟨e,r',q⟩|q|q
  ·refine .inl ⟨e,r',q.ne,q.ps,?_,?_,a1.trans q.ea,b1.trans q.eb⟩
   ·show(d5K _ _ _).ts=_;rw[d6R];exact q.ta
   ·show(d5K _ _ _).ts=_;rw[d6R];exact q.tb
  ·refine .inr (.inl ⟨by show(d5K _ _ _).ts=_;rw[d6R];exact q.ts,?_⟩)
   show(d5K _ _ _).err=0∨_
   simp only[e1C,b1,b2]
   exact q.er
  ·refine .inr (.inr ⟨?_,?_⟩)
   ·show(d5K _ _ _).err≠0;rw[a1];exact q.1
   ·show(d5K _ _ _).pos≠_;rw[a2];exact q.2
def atT (t:Nm) (x:Tok):Bool:=decide (x.kind≠0)&&decide (x.text=t)
theorem e1F {t:Nm} {x:Tok} (h:atT t x=true):x.kind≠0:=by
 unfold atT at h
 simp only[h0S,h4S] at h
 exact h.1
def e1G (t:Nm):Pm Unit:=fun s=>((),d5H t s)
theorem e1H (t:Nm):e1G t=e0P (atT t) e0Y (e1A 2):=by
 funext s
 unfold e1G e0P e0Y e1A d5H
 show _=if atM t s=true then _ else _
 split <;> rfl
theorem e1I {p:Ps→Prop} (t:Nm):Gd p (e1G t):=by
 rw[e1H];exact e0V e0Z (e1B (.inl rfl))
def numC (lo hi:Nat):Pm Int:=e0P (fun x=>decide (x.kind≠3∨x.val < lo)) (bnd (e1A 2) fun _=>ret 0) (e0P (fun x=>decide (hi < x.val)) (bnd (e1A 3) fun _=>ret 0) (hdB fun x=>bnd e0Y fun _=>ret (IntKind.i64.wrap (x.val:Int))))
theorem e1J (lo hi:Nat):d5J lo hi=numC lo hi:=by
 funext s
 unfold d5J numC e0P bnd hdB ret e1A e0Y
 by_cases h:s.hd.kind≠3∨s.hd.val < lo
 ·rw[if_pos h]
  show _=if decide (s.hd.kind≠3∨s.hd.val < lo)=true then _ else _
  rw[if_pos (h4R h)]
 ·rw[if_neg h]
  show _=if decide (s.hd.kind≠3∨s.hd.val < lo)=true then _ else _
  rw[if_neg (fun q=>h (h4Z q))]
  by_cases h2:hi < s.hd.val
  ·rw[if_pos h2]
   show _=if decide (hi < s.hd.val)=true then _ else _
   rw[if_pos (h4R h2)]
  ·rw[if_neg h2]
   show _=if decide (hi < s.hd.val)=true then _ else _
   rw[if_neg (fun q=>h2 (h4Z q))]
theorem e1K {p:Ps→Prop} (lo hi:Nat):Gd p (d5J lo hi):=by
 rw[e1J]
 refine e0V (e0T (e1B (.inl rfl)) fun _=>e0R _) (e0V (e0T (e1B (.inr ⟨rfl,fun s h=>?_⟩)) fun _=>e0R _) (e0W fun t=>e0T e0Z fun _=>e0R _))
 have:=h.1.2
 simp only[h4Q] at this
 omega
def e1L:Pm Nm:=e0P (fun x=>decide (x.kind≠1)) (bnd (e1A 2) fun _=>ret []) (hdB fun x=>bnd e0Y fun _=>ret x.text)
theorem e1M:d5I=e1L:=by
 funext s
 unfold d5I e1L e0P bnd hdB ret e1A e0Y
 by_cases h:s.hd.kind≠1
 ·rw[if_pos h]
  show _=if decide (s.hd.kind≠1)=true then _ else _
  rw[if_pos (h4R h)]
 ·rw[if_neg h]
  show _=if decide (s.hd.kind≠1)=true then _ else _
  rw[if_neg (fun q=>h (h4Z q))]
theorem e1N {p:Ps→Prop}:Gd p d5I:=by
 rw[e1M]
 exact e0V (e0T (e1B (.inl rfl)) fun _=>e0R _) (e0W fun t=>e0T e0Z fun _=>e0R _)
theorem e1O:d5V=e0P (atT [102,105,101,108,100]) (bnd e0Y fun _=>ret ⟨1,0,0⟩) (e0P (atT [98,111,111,108]) (bnd e0Y fun _=>ret ⟨2,0,0⟩) (e0P (atT [117,105,110,116]) (bnd e0Y fun _=>bnd (d5J 1 62) fun v=>ret ⟨3,v,0⟩) (bnd (e1A 2) fun _=>ret ⟨0,0,0⟩))):=by
 funext s;rfl
theorem e1P {p:Ps→Prop}:Gd p d5V:=by
 rw[e1O]
 exact e0V (e0T e0Z fun _=>e0R _) (e0V (e0T e0Z fun _=>e0R _) (e0V (e0T e0Z fun _=>e0T (e1K _ _) fun _=>e0R _) (e0T (e1B (.inl rfl)) fun _=>e0R _)))
theorem e1Q:tyM=bnd d5V fun k=>e0P (atT [91]) (bnd e0Y fun _=>bnd (d5J 1 64) fun v=>bnd (e1G [93]) fun _=>ret ⟨k.kind,k.bits,v⟩) (ret k):=by
 funext s;rfl
theorem e1R {p:Ps→Prop}:Gd p tyM:=by
 rw[e1Q]
 exact e0T e1P fun _=>e0V (e0T e0Z fun _=>e0T (e1K _ _) fun _=>e0T (e1I _) fun _=>e0R _) (e0R _)
theorem e1S:d5W=bnd d5I fun a=>bnd (e1G [58]) fun _=>bnd tyM fun t=>ret ⟨a,t⟩:=by
 funext s;rfl
theorem e1T {p:Ps→Prop}:Gd p d5W:=by
 rw[e1S]
 exact e0T e1N fun _=>e0T (e1I _) fun _=>e0T e1R fun _=>e0R _
end Go.Ky

/- KX 40: all of the parser's functions keep what is known of places. -/
namespace Go.Ky
open Go.Pi Go.Lx
theorem e1U {α:Type} (p:Tok→Prop) [DecidablePred p] (m k:Pm α) (s:Ps):e0P (fun x=>decide (p x)) m k s=if p s.hd then m s else k s:=by
 unfold e0P
 by_cases h:p s.hd
 ·rw[if_pos h,if_pos (h4R h)]
 ·rw[if_neg h,if_neg (fun q=>h (h4Z q))]
theorem Gd.any {α:Type} {p:Ps→Prop} {m:Pm α} (h:Gd tt m):Gd p m:=e0Q h fun _ _=>trivial
def opG (x:Tok):List (Nm×Int)→Option Int
 |[]=>none
 |(t,o)::r=>if atT t x=true then some o else opG x r
theorem e1V (s:Ps):∀ l,d5L s l=opG s.hd l
 |[]=>rfl
 |(t,o)::r=>by
  rw[d5L,opG,e1V s r];rfl
theorem e1W (n:Nat):d5M (n+1)=bnd (d5N n 0) fun a=>e0P (atT [63]) (bnd e0Y fun _=>bnd (d5M n) fun b=>bnd (e1G [58]) fun _=>bnd (d5M n) fun c=>ret (nod 20 [a,b,c])) (ret a):=by
 funext s;rw[d5M];rfl
theorem e1X (n lv:Nat):d5N (n+1) lv=if lv=5 then unM n else bnd (d5N n (lv+1)) fun e=>d5O n lv e:=by
 funext s;rw[d5N];split <;> rfl
def e1Y (n lv:Nat) (e:Exp) (x:Tok):Pm Exp:=match opG x (ops lv) with
 |none=>ret e
 |some o=>if lv=2 then bnd e0Y fun _=>bnd (d5N n (lv+1)) fun y=>ret (nod o [e,y]) else bnd e0Y fun _=>bnd (d5N n (lv+1)) fun y=>d5O n lv (nod o [e,y])
theorem e1Z (n lv:Nat) (e:Exp):d5O (n+1) lv e=hdB (e1Y n lv e):=by
 funext s
 rw[d5O]
 unfold hdB e1Y opL
 rw[e1V]
 cases opG s.hd (ops lv) with
 |none=>rfl
 |some o =>
  show(if lv=2 then _ else _)=_
  simp only
  split <;> rfl
theorem e_un (n:Nat):unM (n+1)=e0P (atT [45]) (bnd e0Y fun _=>bnd (unM n) fun x=>ret (nod 9 [x])) (e0P (atT [110,111,116]) (bnd e0Y fun _=>bnd (unM n) fun x=>ret (nod 10 [x])) (bnd (d5Q n) fun e=>d5P n e)):=by
 funext s;rw[unM];rfl
theorem e2A (n:Nat) (e:Exp):d5P (n+1) e=e0P (atT [91]) (bnd e0Y fun _=>bnd (d5M n) fun x=>bnd (e1G [93]) fun _=>d5P n (nod 8 [e,x])) (ret e):=by
 funext s;rw[d5P];rfl
def e2B (n:Nat):Pm Exp:=e0P (atT [116,114,117,101]) (bnd e0Y fun _=>ret (nod 3 [])) (e0P (atT [102,97,108,115,101]) (bnd e0Y fun _=>ret (nod 4 [])) (e0P (atT [104,97,115,104]) (bnd e0Y fun _=>d5S n) (e0P (atT [91]) (bnd e0Y fun _=>bnd (d5T n) fun l=>bnd (e1G [93]) fun _=>ret (nod 7 l)) (e0P (atT [40]) (bnd e0Y fun _=>bnd (d5M n) fun e=>bnd (e1G [41]) fun _=>ret e) (bnd (e1A 2) fun _=>ret zEx)))))
theorem e2C (n:Nat):d5Q (n+1)=e0P (fun x=>decide (x.kind=3)) (hdB fun x=>bnd e0Y fun _=>ret (.mk 1 x.val [] true [])) (e0P (fun x=>decide (x.kind=1)) (hdB fun x=>bnd e0Y fun _=>e0P (atT [40]) (bnd e0Y fun _=>bnd (d5R n) fun l=>ret (.mk 5 0 x.text l.isEmpty l)) (ret (.mk 2 0 x.text true []))) (e2B n)):=by
 funext s
 rw[d5Q,e1U (fun x=>x.kind=3)]
 by_cases h:s.hd.kind=3
 ·rw[if_pos h,if_pos h];rfl
 ·rw[if_neg h,if_neg h,e1U (fun x=>x.kind=1)]
  by_cases h1:s.hd.kind=1
  ·rw[if_pos h1,if_pos h1];rfl
  ·rw[if_neg h1,if_neg h1];rfl
theorem e2D (n:Nat):d5R (n+1)=e0P (atT [41]) (bnd e0Y fun _=>ret []) (bnd (d5T n) fun l=>bnd (e1G [41]) fun _=>ret l):=by
 funext s;rw[d5R];rfl
theorem e2E (n:Nat):d5S (n+1)=bnd (e1G [40]) fun _=>e0P (fun x=>decide (x.kind≠3)) (bnd (e1A 2) fun _=>ret zEx) (hdB fun x=>bnd e0Y fun _=>bnd (e1G [59]) fun _=>bnd (d5T n) fun l=>bnd (e1G [41]) fun _=>ret (.mk 6 x.val [] l.isEmpty l)):=by
 funext s
 rw[d5S]
 unfold bnd e0P hdB
 by_cases h:(d5H [40] s).hd.kind≠3
 ·rw[if_pos h]
  show _=if decide ((d5H [40] s).hd.kind≠3)=true then _ else _
  rw[if_pos (h4R h)];rfl
 ·rw[if_neg h]
  show _=if decide ((d5H [40] s).hd.kind≠3)=true then _ else _
  rw[if_neg (fun q=>h (h4Z q))];rfl
theorem e2F (n:Nat):d5T (n+1)=bnd (d5M n) fun e=>d5U n [e]:=by
 funext s;rw[d5T];rfl
theorem e2G (n:Nat) (l:List Exp):d5U (n+1) l=e0P (atT [44]) (bnd e0Y fun _=>bnd (d5M n) fun e=>d5U n (l++[e])) (ret l):=by
 funext s;rw[d5U];rfl
structure GdAll (n:Nat):Prop where
 ex:Gd tt (d5M n)
 bi:∀ lv,Gd tt (d5N n lv)
 bl:∀ lv e,Gd tt (d5O n lv e)
 un:Gd tt (unM n)
 il:∀ e,Gd tt (d5P n e)
 pr:Gd tt (d5Q n)
 ar:Gd tt (d5R n)
 ha:Gd tt (d5S n)
 li:Gd tt (d5T n)
 ll:∀ l,Gd tt (d5U n l)
theorem e2H:∀ n,GdAll n:=by
 intro n
 induction n with
 |zero =>
  have k:∀ {α:Type} {m:Pm α} (v:α),(∀ s,m s=(v,s))→Gd tt m:=fun v h=>by
   have:_=ret v:=funext h
   rw[this];exact e0R v
  constructor
  ·exact k zEx fun s=>by rw[d5M]
  ·exact fun lv=>k zEx fun s=>by rw[d5N]
  ·exact fun lv e=>k e fun s=>by rw[d5O]
  ·exact k zEx fun s=>by rw[unM]
  ·exact fun e=>k e fun s=>by rw[d5P]
  ·exact k zEx fun s=>by rw[d5Q]
  ·exact k [] fun s=>by rw[d5R]
  ·exact k zEx fun s=>by rw[d5S]
  ·exact k [] fun s=>by rw[d5T]
  ·exact fun l=>k l fun s=>by rw[d5U]
 |succ n ih =>
  constructor
  ·rw[e1W]
   exact e0T (ih.bi 0) fun _=>e0V (e0T e0Z fun _=>e0T ih.ex fun _=>e0T (e1I _) fun _=>e0T ih.ex fun _=>e0R _) (e0R _)
  ·intro lv
   rw[e1X]
   split
   ·exact ih.un
   ·exact e0T (ih.bi _) fun _=>ih.bl _ _
  ·intro lv e
   rw[e1Z]
   refine e0W fun t=>?_
   unfold e1Y
   cases opG t (ops lv) with
   |none=>exact e0R _
   |some o =>
    simp only
    split
    ·exact e0T e0Z fun _=>e0T (ih.bi _) fun _=>e0R _
    ·exact e0T e0Z fun _=>e0T (ih.bi _) fun _=>ih.bl _ _
  ·rw[e_un]
   exact e0V (e0T e0Z fun _=>e0T ih.un fun _=>e0R _) (e0V (e0T e0Z fun _=>e0T ih.un fun _=>e0R _) (e0T ih.pr.any fun _=>ih.il _))
  ·intro e
   rw[e2A]
   exact e0V (e0T e0Z fun _=>e0T ih.ex fun _=>e0T (e1I _) fun _=>ih.il _) (e0R _)
  ·rw[e2C]
   refine e0V (e0W fun t=>e0T e0Z fun _=>e0R _) (e0V (e0W fun t=>e0T e0Z fun _=>e0V (e0T e0Z fun _=>e0T ih.ar fun _=>e0R _) (e0R _)) ?_)
   unfold e2B
   exact e0V (e0T e0Z fun _=>e0R _) (e0V (e0T e0Z fun _=>e0R _) (e0V (e0T e0Z fun _=>ih.ha) (e0V (e0T e0Z fun _=>e0T ih.li fun _=>e0T (e1I _) fun _=>e0R _) (e0V (e0T e0Z fun _=>e0T ih.ex fun _=>e0T (e1I _) fun _=>e0R _) (e0T (e1B (.inl rfl)) fun _=>e0R _)))))
  ·rw[e2D]
   exact e0V (e0T e0Z fun _=>e0R _) (e0T ih.li.any fun _=>e0T (e1I _) fun _=>e0R _)
  ·rw[e2E]
   exact e0T (e1I _) fun _=>e0V (e0T (e1B (.inl rfl)) fun _=>e0R _) (e0W fun t=>e0T e0Z fun _=>e0T (e1I _) fun _=>e0T ih.li fun _=>e0T (e1I _) fun _=>e0R _)
  ·rw[e2F]
   exact e0T ih.ex fun _=>ih.ll _
  ·intro l
   rw[e2G]
   exact e0V (e0T e0Z fun _=>e0T ih.ex fun _=>ih.ll _) (e0R _)
theorem e2I (n:Nat):d5Y n=bnd d5I fun a=>hdB fun x=>bnd (e0P (atT [58]) (bnd e0Y fun _=>tyM) (ret zTy)) fun ty=>bnd (e1G [61]) fun _=>bnd (d5M n) fun e=>bnd (e1G [59]) fun _=>ret (.mk 1 a (atT [58] x) ty e 0 0 true []):=by
 funext s;rfl
theorem e2J {p:Ps→Prop} (n:Nat):Gd p (d5Y n):=by
 rw[e2I]
 exact e0T e1N fun _=>e0W fun t=>e0T (e0V (e0T e0Z fun _=>e1R) (e0R _)) fun _=>e0T (e1I _) fun _=>e0T (e2H n).ex fun _=>e0T (e1I _) fun _=>e0R _
theorem e2K (n:Nat):d5Z n=bnd (d5M n) fun e=>bnd (e1G [59]) fun _=>ret (.mk 2 [] false zTy e 0 0 true []):=by
 funext s;rfl
theorem e2L {p:Ps→Prop} (n:Nat):Gd p (d5Z n):=by
 rw[e2K]
 exact e0T (e2H n).ex.any fun _=>e0T (e1I _) fun _=>e0R _
theorem e2M (n:Nat):d6A (n+1)=e0P (fun x=>decide (x.text=[108,101,116])) (bnd e0Y fun _=>d5Y n) (e0P (fun x=>decide (x.text=[97,115,115,101,114,116])) (bnd e0Y fun _=>d5Z n) (e0P (fun x=>decide (x.text=[102,111,114])) (bnd e0Y fun _=>bnd d5I fun a=>bnd (e1G [105,110]) fun _=>bnd (d5J 0 1000000) fun lo=>bnd (e1G [46,46]) fun _=>bnd (d5J 0 1000000) fun hi=>bnd (e1G [123]) fun _=>bnd (d6B n false []) fun b=>bnd (e1G [125]) fun _=>ret (.mk 3 a false zTy zEx lo hi b.isEmpty b)) (bnd e0Y fun _=>ret (.mk 0 [] false zTy zEx 0 0 true [])))):=by
 funext s
 rw[d6A]
 unfold e0P
 by_cases h:s.hd.text=[108,101,116]
 ·rw[if_pos h,if_pos (h4R h)];rfl
 ·rw[if_neg h,if_neg (fun q=>h (h4Z q))]
  by_cases h1:s.hd.text=[97,115,115,101,114,116]
  ·rw[if_pos h1,if_pos (h4R h1)];rfl
  ·rw[if_neg h1,if_neg (fun q=>h1 (h4Z q))]
   by_cases h2:s.hd.text=[102,111,114]
   ·rw[if_pos h2,if_pos (h4R h2)];rfl
   ·rw[if_neg h2,if_neg (fun q=>h2 (h4Z q))];rfl
def atU (x:Tok):Bool:=atT [108,101,116] x || (atT [97,115,115,101,114,116] x || atT [102,111,114] x)
theorem e2N (n:Nat) (o:Bool) (l:List St):d6B (n+1) o l=e0P atU (bnd (if o=true then e1C (d6A n) d5X else d6A n) fun x=>d6B n o (l++[x])) (ret l):=by
 funext s
 rw[d6B]
 unfold e0P
 show(if atU s.hd=true then _ else _)=_
 split
 ·cases o <;> rfl
 ·rfl
structure GdS (n:Nat):Prop where
 st:Gd tt (d6A n)
 bd:∀ o l,Gd tt (d6B n o l)
theorem e2O:∀ n,GdS n:=by
 intro n
 induction n with
 |zero =>
  have k:∀ {α:Type} {m:Pm α} (v:α),(∀ s,m s=(v,s))→Gd tt m:=fun v h=>by
   have:_=ret v:=funext h
   rw[this];exact e0R v
  constructor
  ·exact k (.mk 0 [] false zTy zEx 0 0 true []) fun s=>by rw[d6A]
  ·exact fun o l=>k l fun s=>by rw[d6B]
 |succ n ih =>
  constructor
  ·rw[e2M]
   exact e0V (e0T e0Z fun _=>e2J _) (e0V (e0T e0Z fun _=>e2L _) (e0V (e0T e0Z fun _=>e0T e1N fun _=>e0T (e1I _) fun _=>e0T (e1K _ _) fun _=>e0T (e1I _) fun _=>e0T (e1K _ _) fun _=>e0T (e1I _) fun _=>e0T (ih.bd _ _) fun _=>e0T (e1I _) fun _=>e0R _) (e0T e0Z fun _=>e0R _)))
  ·intro o l
   rw[e2N]
   refine e0V (e0T ?_ fun _=>ih.bd _ _) (e0R _)
   split
   ·refine e1E ih.st.any fun s hs=>.inl ?_
    have:=hs.2
    unfold atU at this
    simp only[h0Y] at this
    rcases this with h|h|h <;> exact e1F h
   ·exact ih.st.any
theorem e2P (n:Nat) (l:List Pa):d6C (n+1) l=e0P (atT [44]) (bnd e0Y fun _=>bnd d5W fun e=>d6C n (l++[e])) (ret l):=by
 funext s;rw[d6C];rfl
theorem e2Q:∀ (n:Nat) (l:List Pa) {p:Ps→Prop},Gd p (d6C n l)
 |0,l,p=>by
  have:d6C 0 l=ret l:=by funext s;rw[d6C];rfl
  rw[this];exact e0R _
 |n+1,l,p=>by
  rw[e2P]
  exact e0V (e0T e0Z fun _=>e0T e1T fun _=>e2Q n _) (e0R _)
theorem e2R (n:Nat):d6D n=e0P (atT [41]) (ret []) (bnd d5W fun e=>d6C n [e]):=by
 funext s;rfl
theorem e2S {p:Ps→Prop} (n:Nat):Gd p (d6D n):=by
 rw[e2R];exact e0V (e0R _) (e0T e1T fun _=>e2Q _ _)
def e2T (n:Nat):Pm Exp:=bnd (e1G [114,101,116,117,114,110]) fun _=>d5M n
theorem e2U {p:Ps→Prop} (n:Nat):Gd p (e2T n):=e0T (e1I _) fun _=>(e2H n).ex
theorem e_fn (n:Nat):fnM n=bnd (e1G [102,110]) fun _=>bnd d5I fun a=>bnd (e1G [40]) fun _=>bnd (d6D n) fun ps=>bnd (e1G [41]) fun _=>bnd (e1G [58]) fun _=>bnd tyM fun ty=>bnd (e1G [123]) fun _=>bnd (d6B n true []) fun b=>bnd (e1C (e2T n) (fun e=>decide ((dEx e:Int) > 40))) fun e=>bnd (e1G [59]) fun _=>bnd (e1G [125]) fun _=>ret ⟨a,ps.isEmpty,ps,ty,b.isEmpty,b,e⟩:=by
 funext s
 simp only[fnM,bnd,ret,e1C,e2T,e1G]
 rfl
theorem e2V {p:Ps→Prop} (n:Nat):Gd p (fnM n):=by
 rw[e_fn]
 refine e0T (e1I _) fun _=>e0T e1N fun _=>e0T (e1I _) fun _=>e0T (e2S _) fun _=>e0T (e1I _) fun _=>e0T (e1I _) fun _=>e0T e1R fun _=>e0T (e1I _) fun _=>e0T ((e2O n).bd _ _) fun _=>e0T (e1E (e2U _) fun s _=>?_) fun _=>e0T (e1I _) fun _=>e0T (e1I _) fun _=>e0R _
 by_cases hk:s.hd.kind=0
 ·right
  have ha:¬atM [114,101,116,117,114,110] s=true:=fun h=>d6M h hk
  have he:(d5H [114,101,116,117,114,110] s).err≠0:=by
   unfold d5H
   rw[if_neg ha]
   show(if s.err=0 then (2:Int) else s.err)≠0
   split
   ·decide
   ·assumption
  have:=((e2H n).ex.err _ trivial he).1
  show(d5M n (d5H [114,101,116,117,114,110] s)).2.err≠0
  rw[this];exact he
 ·exact .inl hk
theorem e2W:d6E=hdB fun x=>bnd e0Y fun _=>bnd d5I fun a=>bnd (e1G [58]) fun _=>bnd tyM fun t=>bnd (e1G [59]) fun _=>ret ⟨decide (x.text=[112,117,98,108,105,99]),a,t⟩:=by
 funext s;rfl
theorem e2X {p:Ps→Prop}:Gd p d6E:=by
 rw[e2W]
 exact e0W fun t=>e0T e0Z fun _=>e0T e1N fun _=>e0T (e1I _) fun _=>e0T e1R fun _=>e0T (e1I _) fun _=>e0R _
theorem e2Y (n:Nat) (l:List Fu):d6F (n+1) l=e0P (atT [102,110]) (bnd (fnM n) fun f=>d6F n (l++[f])) (ret l):=by
 funext s;rw[d6F];rfl
theorem e2Z:∀ (n:Nat) (l:List Fu) {p:Ps→Prop},Gd p (d6F n l)
 |0,l,p=>by
  have:d6F 0 l=ret l:=by funext s;rw[d6F];rfl
  rw[this];exact e0R _
 |n+1,l,p=>by
  rw[e2Y]
  exact e0V (e0T (e2V _) fun _=>e2Z n _) (e0R _)
theorem e3A (n:Nat) (l:List De):d6G (n+1) l=e0P (fun x=>atT [112,117,98,108,105,99] x || atT [115,101,99,114,101,116] x) (bnd d6E fun f=>d6G n (l++[f])) (ret l):=by
 funext s;rw[d6G];rfl
theorem e3B:∀ (n:Nat) (l:List De) {p:Ps→Prop},Gd p (d6G n l)
 |0,l,p=>by
  have:d6G 0 l=ret l:=by funext s;rw[d6G];rfl
  rw[this];exact e0R _
 |n+1,l,p=>by
  rw[e3A]
  exact e0V (e0T e2X fun _=>e3B n _) (e0R _)
def e3C:Pm Unit:=fun s=>((),d6H s)
theorem e3D:e3C=e0P (fun x=>decide (x.kind≠0)) (e1A 2) (ret ()):=by
 funext s
 unfold e3C e0P d6H e1A ret
 by_cases h:s.hd.kind≠0
 ·rw[if_pos h,if_pos (h4R h)]
 ·rw[if_neg h,if_neg (fun q=>h (h4Z q))]
theorem e3E {p:Ps→Prop}:Gd p e3C:=by
 rw[e3D];exact e0V (e1B (.inl rfl)) (e0R _)
end Go.Ky

/- KX 42: the five sources that every statement of the parser's layer tries first, worked out. -/
namespace Go.Ky
open Go.Pi Go.Lx
def e3F:Nat→Nat→List UInt8→Res
 |0,_,_=>.toks []
 |n+1,pos,s=>if gap s=s.length then .toks [⟨0,[],0,pos+s.length⟩] else
  match next (s.drop (gap s)) with
  |.err e=>.err (pos+gap s) e
  |.ok k m v=>(e3F n (pos+gap s+m) (s.drop (gap s+m))).cons ⟨k,(s.drop (gap s)).take m,v,pos+gap s⟩
theorem e3G:∀ (n pos:Nat) (s:List UInt8),s.length < n→e3F n pos s=d0X pos s
 |0,pos,s,h=>by omega
 |n+1,pos,s,h=>by
  rw[e3F]
  rcases d1G s with h1|⟨h1,⟨e',hn⟩|⟨k,m,v,hn⟩⟩
  ·rw[if_pos h1,d1D h1]
  ·rw[if_neg (by omega),d1E h1 hn,hn]
  ·have hp:=d1C hn
   have hdl:(s.drop (gap s)).length=s.length - gap s:=h2N
   have hdl2:(s.drop (gap s+m)).length=s.length - (gap s+m):=h2N
   rw[if_neg (by omega),d1F h1 hn,hn]
   simp only
   rw[e3G n _ _ (by omega)]
def tokF (s:List UInt8):List Tok×Int×Int :=
 if 16384 < s.length then ([⟨0,[],0,0⟩],3,0) else match e3F (s.length+1) 0 s with
 |.toks l=>(l,0,0)
 |.err p e=>match e3F ((s.take p).length+1) 0 (s.take p) with
  |.toks l=>(l,(e:Int),(p:Int))
  |.err _ _=>([],99,0)
theorem e3H (s:List UInt8):d8N s=tokF s:=by
 unfold d8N tokF
 rw[e3G _ _ _ (Nat.lt_succ_self _)]
 split
 ·rfl
 ·cases d0X 0 s with
  |toks l=>rfl
  |err p e =>
   simp only
   rw[e3G _ _ _ (Nat.lt_succ_self _)] <;> (cases d0X 0 (s.take p) <;> rfl)
def exG (n:Nat) (t:List Tok×Int×Int):Exp×Int×Int :=
 if (d6I t.2.1 t.2.2 (exF n t.1)).2≠0 then (zEx,d6I t.2.1 t.2.2 (exF n t.1)) else ((d5M n (st0 t.1)).1,0,0)
def prG (n:Nat) (t:List Tok×Int×Int):Pg×Int×Int :=
 if (d6I t.2.1 t.2.2 (d6J n (st0 t.1)).2).2≠0 then (zPg,d6I t.2.1 t.2.2 (d6J n (st0 t.1)).2) else ((d6J n (st0 t.1)).1,0,0)
def e3I:Exp→Bool
 |.mk op _ _ _ [_,.mk op2 _ _ _ [_,.mk op3 _ _ _ _]]=>decide (op=13)&&(decide (op2=11)&&decide (op3=10))
 |_=>false
theorem e3J {e:Exp} (h:e3I e=true):∃ v nm nl x v2 n2 l2 y v3 n3 l3 r,e=.mk 13 v nm nl [x,.mk 11 v2 n2 l2 [y,.mk 10 v3 n3 l3 r]]:=by
 unfold e3I at h
 split at h
 ·simp only[h0S,h4S] at h
  obtain⟨rfl,rfl,rfl⟩:=h
  exact⟨_,_,_,_,_,_,_,_,_,_,_,_,rfl⟩
 ·cases h
abbrev e3K:List UInt8:=[97,32,45,32,98,32,42,32,110,111,116,32,99,91,105,32,43,32,49,93]
abbrev e3L:List UInt8:=[97,32,60,32,98,32,60,32,99]
abbrev e3M:List UInt8:=[97,32,43]
abbrev e3N:List UInt8:=[108,101,116,32,120,32,61,32,49]
abbrev e3O:List UInt8:=[112,117,98,108,105,99,32,120,58,32,117,105,110,116,32,54,51,59]
abbrev fu5:Nat:=200
theorem len5:12 * (d8N e3K).1.length+20≤fu5∧12 * (d8N e3L).1.length+20≤fu5∧12 * (d8N e3M).1.length+20≤fu5∧12 * (d8N e3N).1.length+20≤fu5∧12 * (d8N e3O).1.length+20≤fu5:=by
 rw[e3H,e3H,e3H,e3H,e3H]
 decide +kernel
theorem ex_1:e3I (exN fu5 e3K).1=true∧(exN fu5 e3K).2=(0,0):=by
 show e3I (exG fu5 (d8N e3K)).1=true∧(exG fu5 (d8N e3K)).2=(0,0)
 rw[e3H]
 decide +kernel
theorem ex_2:(exN fu5 e3L).2=(6,2):=by
 show(exG fu5 (d8N e3L)).2=_
 rw[e3H]
 decide +kernel
theorem ex_3:(exN fu5 e3M).2=(3,2):=by
 show(exG fu5 (d8N e3M)).2=_
 rw[e3H]
 decide +kernel
theorem pr_4:(prN fu5 e3N).2=(9,2):=by
 show(prG fu5 (d8N e3N)).2=_
 rw[e3H]
 decide +kernel
theorem pr_5:(prN fu5 e3O).2=(15,3):=by
 show(prG fu5 (d8N e3O)).2=_
 rw[e3H]
 decide +kernel
end Go.Ky

/- KX 43: how large a read program is. -/
namespace Go.Ky
open Go.Pi Go.Lx
structure FuB (f:Fu):Prop where
 bd:d2Y f.body≤B20
 rt:szE f.ret≤B20
 ps:f.params.length≤20000
structure PgR (p:Pg):Prop where
 fs:∀ f,f∈p.funcs→FuB f
 fl:p.funcs.length≤20000
 dl:p.decls.length≤20000
 bd:d2Y p.body≤B20
theorem e3P:∀ (n:Nat) (l:List Pa) (s:Ps),WfT s.ts→(d6C n l s).1.length+(d6C n l s).2.ts.length≤l.length+s.ts.length
 |0,l,s,h=>by rw[d6C];exact h3V _
 |n+1,l,s,h=>by
  rw[d6C]
  split
  ·rename_i ha
   have h2:=d6L h
   have l2:=d6N h (d6M ha)
   have w2:=h2.wf h
   have h3:=d6V w2
   have l3:=h3.le
   have:=e3P n (l++[(d5W (d5F s)).1]) (d5W (d5F s)).2 (h3.wf w2)
   rw[h2L] at this
   simp only[h2M,h2P] at this
   omega
  ·exact h3V _
theorem e3Q {n:Nat} {s:Ps} (h:WfT s.ts) (hl:s.ts.length≤16400):FuB (fnM n s).1:=by
 have h0:=d6O h [102,110]
 have w0:=h0.wf h
 have h1:=d6P w0
 have w1:=h1.wf w0
 have h2:=d6O w1 [40]
 have w2:=h2.wf w1
 have h3:=e0B n w2
 have w3:=h3.wf w2
 have h4:=d6O w3 [41]
 have w4:=h4.wf w3
 have h5:=d6O w4 [58]
 have w5:=h5.wf w4
 have h6:=d6U w5
 have w6:=h6.wf w5
 have h7:=d6O w6 [123]
 have w7:=h7.wf w6
 have h8:=(d9M n).bd true [] _ w7
 have w8:=h8.suf.wf w7
 have h9:=d6O w8 [114,101,116,117,114,110]
 have w9:=h9.wf w8
 have h10:=(d7F n).ex _ w9
 have l2:=((h0.trans h1).trans h2).le
 have l7:=(((((((h0.trans h1).trans h2).trans h3).trans h4).trans h5).trans h6).trans h7).le
 have l8:=h8.suf.le
 have l9:=h9.le
 have z0:d2Y []=0:=rfl
 have a8:=h8.sz
 have a10:=h10.sz
 refine⟨?_,?_,?_⟩
 ·show d2Y (d6B n true [] _).1≤B20
  unfold B20;omega
 ·show szE (d5M n _).1≤B20
  unfold B20;omega
 ·show(d6D n _).1.length≤20000
  unfold d6D
  split
  ·exact h4D _
  ·have h11:=d6V w2
   have l11:=h11.le
   have:=e3P n [(d5W (d5H [40] (d5I (d5H [102,110] s)).2)).1] _ (h11.wf w2)
   simp only[h2M,h2P] at this
   omega
theorem e3R:∀ (n:Nat) (l:List Fu) (s:Ps),WfT s.ts→s.ts.length≤16400→(∀ f,f∈l→FuB f)→Suf s (d6F n l s).2∧(∀ f,f∈(d6F n l s).1→FuB f)∧(d6F n l s).1.length+(d6F n l s).2.ts.length≤l.length+s.ts.length
 |0,l,s,h,_,hl=>by rw[d6F];exact⟨.refl h,hl,h3V _⟩
 |n+1,l,s,h,hs,hl=>by
  rw[d6F]
  split
  ·rename_i ha
   have h1:=e0E (n:=n) h
   have l1:=e0D (n:=n) h ha
   obtain⟨a1,a2,a3⟩:=e3R n (l++[(fnM n s).1]) (fnM n s).2 (h1.wf h) (by omega) (fun f hf=>by
    rcases h2W.1 hf with h2|h2
    ·exact hl f h2
    ·rw[h3F] at h2
     rw[h2];exact e3Q h hs)
   rw[h2L] at a3
   simp only[h2M,h2P] at a3
   exact⟨h1.trans a1,a2,by omega⟩
  ·exact⟨.refl h,hl,h3V _⟩
theorem e3S:∀ (n:Nat) (l:List De) (s:Ps),WfT s.ts→Suf s (d6G n l s).2∧(d6G n l s).1.length+(d6G n l s).2.ts.length≤l.length+s.ts.length
 |0,l,s,h=>by rw[d6G];exact⟨.refl h,h3V _⟩
 |n+1,l,s,h=>by
  rw[d6G]
  split
  ·rename_i ha
   have hk:s.hd.kind≠0:=by
    rw[h0Y] at ha
    rcases ha with h|h <;> exact d6M h
   have h1:=e0H h
   have l1:=e0G h hk
   obtain⟨a1,a2⟩:=e3S n (l++[(d6E s).1]) (d6E s).2 (h1.wf h)
   rw[h2L] at a2
   simp only[h2M,h2P] at a2
   exact⟨h1.trans a1,by omega⟩
  ·exact⟨.refl h,h3V _⟩
theorem e3T {n:Nat} {l:List Tok} (h:WfT l) (hl:l.length≤16400):PgR (d6J n (st0 l)).1:=by
 have h0:(st0 l).ts.length=l.length:=rfl
 obtain⟨a1,a2,a3⟩:=e3R n [] (st0 l) h hl (fun f hf=>by cases hf)
 have w1:=a1.wf h
 obtain⟨b1,b2⟩:=e3S n [] (d6F n [] (st0 l)).2 w1
 have w2:=b1.wf w1
 have h8:=((d9M n).bd true [] _ w2).sz
 have l1:=a1.le
 have l2:=b1.le
 have z0:d2Y []=0:=rfl
 simp only[h2P] at a3 b2
 refine⟨a2,?_,?_,?_⟩
 ·show(d6F n [] (st0 l)).1.length≤_;omega
 ·show(d6G n [] _).1.length≤_;omega
 ·show d2Y (d6B n true [] _).1≤B20
  unfold B20;omega
theorem pr_b (n:Nat) (s:List UInt8):PgR (prN n s).1:=by
 have hw:=e0K s
 unfold prN
 split
 ·exact⟨fun f hf=>(by cases hf),by show 0≤_;omega,by show 0≤_;omega,by show 0≤_;exact h4D _⟩
 ·exact e3T hw.1.wf hw.2
end Go.Ky
