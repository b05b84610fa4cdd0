/- KX 5: programs of the circuit language as plain data; which are valid. No program in sight. -/
import Derived.Test.YtcbgiabippcpaaaGreatDoorPi31
import Derived.Test.YtcbgiabippcpaaaGreatDoorLx3
import Derived.Test.YtcbgiabippcpaaaGreatDoorLx3
namespace Go.Ky
open Go.Pi
abbrev Nm:=List UInt8
structure Ty where
 kind:Int
 bits:Int
 len:Int
deriving DecidableEq
abbrev tTy (t:Ty):List T:=[.int .i64 t.kind,.int .i64 t.bits,.int .i64 t.len]
def zTy:Ty:=⟨0,0,0⟩
def d2I:Ty:=⟨1,0,0⟩
def d2J:Ty:=⟨2,0,0⟩
inductive Exp where
 |mk (op val:Int) (name:Nm) (nl:Bool) (args:List Exp)
instance:Inhabited Exp:=⟨.mk 0 0 [] true []⟩
def Exp.op:Exp→Int|.mk o _ _ _ _=>o
def Exp.val:Exp→Int|.mk _ v _ _ _=>v
def Exp.name:Exp→Nm|.mk _ _ n _ _=>n
def Exp.nl:Exp→Bool|.mk _ _ _ b _=>b
def Exp.args:Exp→List Exp|.mk _ _ _ _ l=>l
theorem Exp.ind {p:Exp→Prop} (h:∀ e:Exp,(∀ a,a∈e.args→p a)→p e):∀ e,p e:=by
 intro e
 refine Exp.rec (motive_1:=p) (motive_2:=fun l=>∀ a,a∈l→p a) ?_ ?_ ?_ e
 ·intro o v n b l ih
  exact h (.mk o v n b l) ih
 ·intro a ha;cases ha
 ·intro x l hx hl a ha
  rcases g7W.1 ha with e|e
  ·subst e;exact hx
  ·exact hl a e
mutual
def tEx:Exp→List T
 |.mk o v n nl l=>[.int .i64 o,.int .u64 v,.str n,.sl nl (d2K l)]
def d2K:List Exp→List (List T)
 |[]=>[]
 |e::r=>tEx e::d2K r
end
theorem d2L (l:List Exp):d2K l=l.map tEx:=by
 induction l with
 |nil=>rfl
 |cons e r ih=>rw[d2K,ih];rfl
theorem d2M (e:Exp):tEx e=[.int .i64 e.op,.int .u64 e.val,.str e.name,.sl e.nl (d2K e.args)]:=by
 cases e;rfl
theorem d2N (l:List Exp):(d2K l).length=l.length:=by rw[d2L,g7N]
theorem d2O (l:List Exp) (i:Nat):(d2K l)[i]?=l[i]?.map tEx:=by rw[d2L,g7C]
inductive St where
 |mk (kind:Int) (name:Nm) (typed:Bool) (ty:Ty) (ex:Exp) (lo hi:Int) (nl:Bool) (body:List St)
instance:Inhabited St:=⟨.mk 0 [] false zTy default 0 0 true []⟩
def St.kind:St→Int|.mk k _ _ _ _ _ _ _ _=>k
def St.name:St→Nm|.mk _ n _ _ _ _ _ _ _=>n
def St.typed:St→Bool|.mk _ _ b _ _ _ _ _ _=>b
def St.ty:St→Ty|.mk _ _ _ t _ _ _ _ _=>t
def St.ex:St→Exp|.mk _ _ _ _ e _ _ _ _=>e
def St.lo:St→Int|.mk _ _ _ _ _ l _ _ _=>l
def St.hi:St→Int|.mk _ _ _ _ _ _ h _ _=>h
def St.nl:St→Bool|.mk _ _ _ _ _ _ _ b _=>b
def St.body:St→List St|.mk _ _ _ _ _ _ _ _ l=>l
theorem St.ind {p:St→Prop} (h:∀ s:St,(∀ a,a∈s.body→p a)→p s):∀ s,p s:=by
 intro s
 refine St.rec (motive_1:=p) (motive_2:=fun l=>∀ a,a∈l→p a) ?_ ?_ ?_ s
 ·intro k n b t e lo hi nl l ih
  exact h (.mk k n b t e lo hi nl l) ih
 ·intro a ha;cases ha
 ·intro x l hx hl a ha
  rcases g7W.1 ha with e|e
  ·subst e;exact hx
  ·exact hl a e
mutual
def tSt:St→List T
 |.mk k n b t e lo hi nl l=>[.int .i64 k,.str n,.bool b,.int .i64 t.kind,.int .i64 t.bits,.int .i64 t.len,.int .i64 e.op,.int .u64 e.val,.str e.name,.sl e.nl (d2K e.args),.int .i64 lo,.int .i64 hi,.sl nl (d2P l)]
def d2P:List St→List (List T)
 |[]=>[]
 |e::r=>tSt e::d2P r
end
theorem d2Q (l:List St):d2P l=l.map tSt:=by
 induction l with
 |nil=>rfl
 |cons e r ih=>rw[d2P,ih];rfl
theorem d2R (s:St):tSt s=[.int .i64 s.kind,.str s.name,.bool s.typed,.int .i64 s.ty.kind,.int .i64 s.ty.bits,.int .i64 s.ty.len,.int .i64 s.ex.op,.int .u64 s.ex.val,.str s.ex.name,.sl s.ex.nl (d2K s.ex.args),.int .i64 s.lo,.int .i64 s.hi,.sl s.nl (d2P s.body)]:=by
 cases s;rfl
theorem d2S (l:List St):(d2P l).length=l.length:=by rw[d2Q,g7N]
theorem d2T (l:List St) (i:Nat):(d2P l)[i]?=l[i]?.map tSt:=by rw[d2Q,g7C]
structure Pa where
 name:Nm
 ty:Ty
abbrev tPa (p:Pa):List T:=[.str p.name,.int .i64 p.ty.kind,.int .i64 p.ty.bits,.int .i64 p.ty.len]
structure Fu where
 name:Nm
 pnl:Bool
 params:List Pa
 res:Ty
 bnl:Bool
 body:List St
 ret:Exp
abbrev tFu (f:Fu):List T:=[.str f.name,.sl f.pnl (f.params.map tPa),.int .i64 f.res.kind,.int .i64 f.res.bits,.int .i64 f.res.len,.sl f.bnl (d2P f.body),.int .i64 f.ret.op,.int .u64 f.ret.val,.str f.ret.name,.sl f.ret.nl (d2K f.ret.args)]
structure De where
 pub:Bool
 name:Nm
 ty:Ty
abbrev tDe (d:De):List T:=[.bool d.pub,.str d.name,.int .i64 d.ty.kind,.int .i64 d.ty.bits,.int .i64 d.ty.len]
structure Pg where
 fnl:Bool
 funcs:List Fu
 dnl:Bool
 decls:List De
 bnl:Bool
 body:List St
abbrev tPg (p:Pg):List T:=[.sl p.fnl (p.funcs.map tFu),.sl p.dnl (p.decls.map tDe),.sl p.bnl (d2P p.body)]
abbrev B47:Nat:=140737488355328
def I64 (n:Int):Prop:=-9223372036854775808≤n∧n≤9223372036854775807
def U64 (n:Int):Prop:=0≤n∧n≤18446744073709551615
def d2U (t:Ty):Prop:=I64 t.kind∧I64 t.bits∧I64 t.len
inductive ExpOk:Exp→Prop where
 |mk (e:Exp) (h1:I64 e.op) (h2:U64 e.val) (h3:e.name.length≤B47) (h4:e.args.length≤B47) (h5:e.nl=true→e.args=[]) (h:∀ a,a∈e.args→ExpOk a):ExpOk e
inductive StOk:St→Prop where
 |mk (s:St) (h1:I64 s.kind) (h2:s.name.length≤B47) (h3:d2U s.ty) (h4:ExpOk s.ex) (h5:I64 s.lo) (h6:I64 s.hi) (h7:s.body.length≤B47) (h8:s.nl=true→s.body=[]) (h:∀ a,a∈s.body→StOk a):StOk s
def d2V (p:Pa):Prop:=p.name.length≤B47∧d2U p.ty
structure FuOk (f:Fu):Prop where
 name:f.name.length≤B47
 pl:f.params.length≤B47
 pn:f.pnl=true→f.params=[]
 pa:∀ p,p∈f.params→d2V p
 res:d2U f.res
 bl:f.body.length≤B47
 bn:f.bnl=true→f.body=[]
 bo:∀ s,s∈f.body→StOk s
 ret:ExpOk f.ret
def d2W (d:De):Prop:=d.name.length≤B47∧d2U d.ty
structure PgOk (p:Pg):Prop where
 fl:p.funcs.length≤B47
 fn:p.fnl=true→p.funcs=[]
 fo:∀ f,f∈p.funcs→FuOk f
 dl:p.decls.length≤B47
 dn:p.dnl=true→p.decls=[]
 dok:∀ d,d∈p.decls→d2W d
 bl:p.body.length≤B47
 bn:p.bnl=true→p.body=[]
 bo:∀ s,s∈p.body→StOk s
abbrev d2X (x:Nat):List CT:=[.int .i64,.int .u64,.str,.slr x]
abbrev d2Y (x s:Nat):List CT:=[.int .i64,.str,.bool,.int .i64,.int .i64,.int .i64,.int .i64,.int .u64,.str,.slr x,.int .i64,.int .i64,.slr s]
abbrev ctPa:List CT:=[.str,.int .i64,.int .i64,.int .i64]
abbrev ctFu (x s:Nat):List CT:=[.str,.sl ctPa,.int .i64,.int .i64,.int .i64,.slr s,.int .i64,.int .u64,.str,.slr x]
abbrev ctDe:List CT:=[.bool,.str,.int .i64,.int .i64,.int .i64]
abbrev ctPg (x s:Nat):List CT:=[.sl (ctFu x s),.sl ctDe,.slr s]
def d2Z (x s:Nat) (t:Nat):List CT:=if t=x then d2X x else if t=s then d2Y x s else []
theorem d3A {x s:Nat}:d2Z x s x=d2X x:=by simp [d2Z]
theorem d3B {x s:Nat} (h:s≠x):d2Z x s s=d2Y x s:=by simp [d2Z,h]
section
variable {env:Nat→List CT} {x s:Nat}
theorem d3C {N:Nat} (hN:N≤B47) (hx:env x=d2X x):∀ (c:CT) (y:T),Wt env N c y→c=.slr x→∃ (nl:Bool) (l:List Exp),y=.sl nl (d2K l)∧l.length≤N∧(nl=true→l=[])∧∀ a,a∈l→ExpOk a:=by
 intro c y h
 induction h with
 |nslr t=>intro _;exact⟨true,[],rfl,g9A _,fun _=>rfl,by simp⟩
 |slr t es hl hc h ih =>
  intro e
  injection e with e
  subst e
  rw[hx] at hc h ih
  obtain⟨l,h1,h2⟩:=d0H (enc:=tEx) (p:=ExpOk) (es:=es) fun e he=>by
   have hw:Wts env N (d2X t) e:=⟨hc e he,h e he⟩
   obtain⟨y1,r1,rfl,w1,hw⟩:=d0B hw
   obtain⟨y2,r2,rfl,w2,hw⟩:=d0B hw
   obtain⟨y3,r3,rfl,w3,hw⟩:=d0B hw
   obtain⟨y4,r4,rfl,w4,hw⟩:=d0B hw
   have:=d0A hw
   subst this
   obtain⟨op,rfl,o1,o2⟩:=d0D w1
   obtain⟨v,rfl,v1,v2⟩:=d0E w2
   obtain⟨n,rfl,n1⟩:=d0F w3
   obtain⟨nl,l,rfl,l1,l2,l3⟩:=ih _ he 3 _ y4 rfl rfl rfl
   exact⟨.mk op v n nl l,rfl,.mk _ ⟨o1,o2⟩ ⟨v1,v2⟩ (g8T n1 hN) (g8T l1 hN) l2 l3⟩
  subst h1
  exact⟨false,l,by rw[d2L],by simpa using hl,by simp,h2⟩
 |_=>intro e;cases e
theorem d3D {N:Nat} {y1 y2 y3:T} (w1:Wt env N (.int .i64) y1) (w2:Wt env N (.int .i64) y2) (w3:Wt env N (.int .i64) y3):∃ t:Ty,y1=.int .i64 t.kind∧y2=.int .i64 t.bits∧y3=.int .i64 t.len∧d2U t:=by
 obtain⟨a,rfl,a1,a2⟩:=d0D w1
 obtain⟨b,rfl,b1,b2⟩:=d0D w2
 obtain⟨c,rfl,c1,c2⟩:=d0D w3
 exact⟨⟨a,b,c⟩,rfl,rfl,rfl,⟨a1,a2⟩,⟨b1,b2⟩,⟨c1,c2⟩⟩
theorem d3E {N:Nat} (hN:N≤B47) (hx:env x=d2X x) {y1 y2 y3 y4:T} (w1:Wt env N (.int .i64) y1) (w2:Wt env N (.int .u64) y2) (w3:Wt env N .str y3) (w4:Wt env N (.slr x) y4) :
  ∃ e:Exp,y1=.int .i64 e.op∧y2=.int .u64 e.val∧y3=.str e.name∧y4=.sl e.nl (d2K e.args)∧ExpOk e:=by
 obtain⟨op,rfl,o1,o2⟩:=d0D w1
 obtain⟨v,rfl,v1,v2⟩:=d0E w2
 obtain⟨n,rfl,n1⟩:=d0F w3
 obtain⟨nl,l,rfl,l1,l2,l3⟩:=d3C hN hx _ y4 w4 rfl
 exact⟨.mk op v n nl l,rfl,rfl,rfl,rfl,.mk _ ⟨o1,o2⟩ ⟨v1,v2⟩ (g8T n1 hN) (g8T l1 hN) l2 l3⟩
theorem d3F {N:Nat} (hN:N≤B47) (hx:env x=d2X x) (hs:env s=d2Y x s):∀ (c:CT) (y:T),Wt env N c y→c=.slr s→∃ (nl:Bool) (l:List St),y=.sl nl (d2P l)∧l.length≤N∧(nl=true→l=[])∧∀ a,a∈l→StOk a:=by
 intro c y h
 induction h with
 |nslr t=>intro _;exact⟨true,[],rfl,g9A _,fun _=>rfl,by simp⟩
 |slr t es hl hc h ih =>
  intro e
  injection e with e
  subst e
  rw[hs] at hc h ih
  obtain⟨l,h1,h2⟩:=d0H (enc:=tSt) (p:=StOk) (es:=es) fun e he=>by
   have hw:Wts env N (d2Y x t) e:=⟨hc e he,h e he⟩
   obtain⟨y1,r1,rfl,w1,hw⟩:=d0B hw
   obtain⟨y2,r2,rfl,w2,hw⟩:=d0B hw
   obtain⟨y3,r3,rfl,w3,hw⟩:=d0B hw
   obtain⟨y4,r4,rfl,w4,hw⟩:=d0B hw
   obtain⟨y5,r5,rfl,w5,hw⟩:=d0B hw
   obtain⟨y6,r6,rfl,w6,hw⟩:=d0B hw
   obtain⟨y7,r7,rfl,w7,hw⟩:=d0B hw
   obtain⟨y8,r8,rfl,w8,hw⟩:=d0B hw
   obtain⟨y9,r9,rfl,w9,hw⟩:=d0B hw
   obtain⟨y10,r10,rfl,w10,hw⟩:=d0B hw
   obtain⟨y11,r11,rfl,w11,hw⟩:=d0B hw
   obtain⟨y12,r12,rfl,w12,hw⟩:=d0B hw
   obtain⟨y13,r13,rfl,w13,hw⟩:=d0B hw
   have:=d0A hw
   subst this
   obtain⟨k,rfl,k1,k2⟩:=d0D w1
   obtain⟨n,rfl,n1⟩:=d0F w2
   obtain⟨b,rfl⟩:=d0G w3
   obtain⟨ty,rfl,rfl,rfl,t1⟩:=d3D w4 w5 w6
   obtain⟨e,rfl,rfl,rfl,rfl,e1⟩:=d3E hN hx w7 w8 w9 w10
   obtain⟨lo,rfl,lo1,lo2⟩:=d0D w11
   obtain⟨hi,rfl,hi1,hi2⟩:=d0D w12
   obtain⟨nl,l,rfl,l1,l2,l3⟩:=ih _ he 12 _ y13 rfl rfl rfl
   exact⟨.mk k n b ty e lo hi nl l,rfl,.mk _ ⟨k1,k2⟩ (g8T n1 hN) t1 e1 ⟨lo1,lo2⟩ ⟨hi1,hi2⟩ (g8T l1 hN) l2 l3⟩
  subst h1
  exact⟨false,l,by rw[d2Q],by simpa using hl,by simp,h2⟩
 |_=>intro e;cases e
theorem d3G {N:Nat} (hN:N≤B47) (hx:env x=d2X x) (hs:env s=d2Y x s) {y1 y2 y3:T} (w1:Wt env N (.sl (ctFu x s)) y1) (w2:Wt env N (.sl ctDe) y2) (w3:Wt env N (.slr s) y3) :
  ∃ p:Pg,y1=.sl p.fnl (p.funcs.map tFu)∧y2=.sl p.dnl (p.decls.map tDe)∧y3=.sl p.bnl (d2P p.body)∧PgOk p:=by
 obtain⟨fnl,fes,rfl,f1,f2,f3⟩:=c9Z w1
 obtain⟨dnl,des,rfl,d1,d2,d3⟩:=c9Z w2
 obtain⟨bnl,bo,rfl,b1,b2,b3⟩:=d3F hN hx hs _ y3 w3 rfl
 obtain⟨fs,g1,g2⟩:=d0H (enc:=tFu) (p:=FuOk) (es:=fes) fun e he=>by
  obtain⟨y1,r1,rfl,w1,hw⟩:=d0B (f3 e he)
  obtain⟨y2,r2,rfl,w2,hw⟩:=d0B hw
  obtain⟨y3,r3,rfl,w3,hw⟩:=d0B hw
  obtain⟨y4,r4,rfl,w4,hw⟩:=d0B hw
  obtain⟨y5,r5,rfl,w5,hw⟩:=d0B hw
  obtain⟨y6,r6,rfl,w6,hw⟩:=d0B hw
  obtain⟨y7,r7,rfl,w7,hw⟩:=d0B hw
  obtain⟨y8,r8,rfl,w8,hw⟩:=d0B hw
  obtain⟨y9,r9,rfl,w9,hw⟩:=d0B hw
  obtain⟨y10,r10,rfl,w10,hw⟩:=d0B hw
  have:=d0A hw
  subst this
  obtain⟨n,rfl,n1⟩:=d0F w1
  obtain⟨pnl,pes,rfl,p1,p2,p3⟩:=c9Z w2
  obtain⟨ps,q1,q2⟩:=d0H (enc:=tPa) (p:=d2V) (es:=pes) fun e he=>by
   obtain⟨y1,r1,rfl,w1,hw⟩:=d0B (p3 e he)
   obtain⟨y2,r2,rfl,w2,hw⟩:=d0B hw
   obtain⟨y3,r3,rfl,w3,hw⟩:=d0B hw
   obtain⟨y4,r4,rfl,w4,hw⟩:=d0B hw
   have:=d0A hw
   subst this
   obtain⟨n,rfl,n1⟩:=d0F w1
   obtain⟨ty,rfl,rfl,rfl,t1⟩:=d3D w2 w3 w4
   exact⟨⟨n,ty⟩,rfl,g8T n1 hN,t1⟩
  subst q1
  obtain⟨ty,rfl,rfl,rfl,t1⟩:=d3D w3 w4 w5
  obtain⟨sn,sl,rfl,s1,s2,s3⟩:=d3F hN hx hs _ y6 w6 rfl
  obtain⟨e,rfl,rfl,rfl,rfl,e1⟩:=d3E hN hx w7 w8 w9 w10
  refine⟨⟨n,pnl,ps,ty,sn,sl,e⟩,rfl,?_⟩
  exact⟨g8T n1 hN,by simpa using g8T p1 hN,fun h=>by simpa using p2 h,q2,t1,g8T s1 hN,s2,s3,e1⟩
 obtain⟨ds,h1,h2⟩:=d0H (enc:=tDe) (p:=d2W) (es:=des) fun e he=>by
  obtain⟨y1,r1,rfl,w1,hw⟩:=d0B (d3 e he)
  obtain⟨y2,r2,rfl,w2,hw⟩:=d0B hw
  obtain⟨y3,r3,rfl,w3,hw⟩:=d0B hw
  obtain⟨y4,r4,rfl,w4,hw⟩:=d0B hw
  obtain⟨y5,r5,rfl,w5,hw⟩:=d0B hw
  have:=d0A hw
  subst this
  obtain⟨b,rfl⟩:=d0G w1
  obtain⟨n,rfl,n1⟩:=d0F w2
  obtain⟨ty,rfl,rfl,rfl,t1⟩:=d3D w3 w4 w5
  exact⟨⟨b,n,ty⟩,rfl,g8T n1 hN,t1⟩
 subst g1 h1
 refine⟨⟨fnl,fs,dnl,ds,bnl,bo⟩,rfl,rfl,rfl,?_⟩
 exact⟨by simpa using g8T f1 hN,fun h=>by simpa using f2 h,g2,by simpa using g8T d1 hN,fun h=>by simpa using d2 h,h2,g8T b1 hN,b2,b3⟩
end
end Go.Ky

/- KX 6: valid programs, the checker of types, the steps, in plain words. No program in sight. -/
namespace Go.Ky
open Go.Pi Go.Lx
abbrev B20:Nat:=1100000
def szE (e:Exp):Nat:=b4M (tEx e)
def d3H (l:List Exp):Nat:=b4L (d2K l)
def szS (s:St):Nat:=b4M (tSt s)
def d3I (l:List St):Nat:=b4L (d2P l)
theorem d3J (e:Exp):szE e=4+e.name.length+d3H e.args:=by
 unfold szE d3H
 rw[d2M]
 simp only[b4M,tBk]
 omega
theorem d3K (e:Exp) (r:List Exp):d3H (e::r)=szE e+d3H r:=rfl
theorem d3L (s:St):szS s=13+s.name.length+s.ex.name.length+d3H s.ex.args+d3I s.body:=by
 unfold szS d3I d3H
 rw[d2R]
 simp only[b4M,tBk]
 omega
theorem d3M (e:St) (r:List St):d3I (e::r)=szS e+d3I r:=rfl
theorem d3N {l:List Exp} {e:Exp} (h:e∈l):szE e≤d3H l:=by
 induction l with
 |nil=>cases h
 |cons x r ih =>
  rw[d3K]
  rcases g7W.1 h with e|e
  ·subst e;omega
  ·have:=ih e;omega
theorem d3O {l:List St} {e:St} (h:e∈l):szS e≤d3I l:=by
 induction l with
 |nil=>cases h
 |cons x r ih =>
  rw[d3M]
  rcases g7W.1 h with e|e
  ·subst e;omega
  ·have:=ih e;omega
theorem d3P (l:List Exp):l.length≤d3H l:=by
 induction l with
 |nil=>exact g9A _
 |cons x r ih=>rw[d3K,d3J,g7L];omega
theorem d3Q (l:List St):l.length≤d3I l:=by
 induction l with
 |nil=>exact g9A _
 |cons x r ih=>rw[d3M,d3L,g7L];omega
theorem d3R (s:St):szE s.ex≤szS s:=by rw[d3L,d3J];omega
def d3S:List UInt8→Bool
 |[]=>false
 |c::r=>decide ((c::r).length≤24)&&d0L c&&decide (d0P d0N (c::r)=(c::r).length)&&!keywords.contains (c::r)
def tyB (t:Ty):Bool :=
 if t.len < 0∨64 < t.len then false else if t.kind=1∨t.kind=2 then decide (t.bits=0) else if t.kind=3 then decide (1≤t.bits)&&decide (t.bits≤62) else false
def opB (op n v:Int) (nm:Nm):Bool :=
 if op=1 then decide (n=0)&&decide (nm=[])
 else if op=2 then decide (n=0)&&decide (v=0)&&d3S nm
 else if op=3∨op=4 then decide (n=0)&&decide (v=0)&&decide (nm=[])
 else if op=5 then decide (v=0)&&d3S nm
 else if op=6 then decide (1≤n)&&decide (nm=[])
 else if op=7 then decide (1≤n)&&decide (v=0)&&decide (nm=[])
 else if op=9∨op=10 then decide (n=1)&&decide (v=0)&&decide (nm=[])
 else if op=20 then decide (n=3)&&decide (v=0)&&decide (nm=[])
 else if op=8∨op=11∨op=12∨op=13∨op=14∨op=15∨op=16∨op=17∨op=18∨op=19 then decide (n=2)&&decide (v=0)&&decide (nm=[])
 else false
mutual
def exB:Exp→Bool
 |.mk o v n _ l=>d3T l&&opB o (l.length:Int) v n
def d3T:List Exp→Bool
 |[]=>true
 |e::r=>exB e&&d3T r
end
theorem d3U (l:List Exp):d3T l=l.all exB:=by
 induction l with
 |nil=>rfl
 |cons e r ih=>rw[d3T,ih];rfl
theorem d3V (e:Exp):exB e=(e.args.all exB&&opB e.op (e.args.length:Int) e.val e.name):=by
 cases e
 rw[exB,d3U];rfl
def d3W (e:Exp):Bool:=decide (e.op=0)&&decide (e.val=0)&&decide (e.name=[])&&decide ((e.args.length:Int)=0)
def d3X (n:Int):Bool:=decide (0≤n)&&decide (n≤1000000)
def d3Y (s:St):Bool:=!s.typed&&decide (s.ty=zTy)
mutual
def stB:St→Bool
 |.mk k n b t e lo hi _ l =>
  if k=1 then !(!b&&!decide (t=zTy) || b&&!tyB t)&&d3S n&&exB e&&decide (lo=0)&&decide (hi=0)&&decide ((l.length:Int)=0)
  else if k=2 then decide (n=[])&&(!b&&decide (t=zTy))&&exB e&&decide (lo=0)&&decide (hi=0)&&decide ((l.length:Int)=0)
  else if k=3 then d3S n&&(!b&&decide (t=zTy))&&d3W e&&d3X lo&&d3X hi&&d3Z l
  else false
def d3Z:List St→Bool
 |[]=>true
 |s::r=>stB s&&d3Z r
end
theorem d4A (l:List St):d3Z l=l.all stB:=by
 induction l with
 |nil=>rfl
 |cons e r ih=>rw[d3Z,ih];rfl
theorem d4B (s:St):stB s=if s.kind=1 then !(!s.typed&&!decide (s.ty=zTy) || s.typed&&!tyB s.ty)&&d3S s.name&&exB s.ex&&decide (s.lo=0)&&decide (s.hi=0)&&decide ((s.body.length:Int)=0)
  else if s.kind=2 then decide (s.name=[])&&d3Y s&&exB s.ex&&decide (s.lo=0)&&decide (s.hi=0)&&decide ((s.body.length:Int)=0)
  else if s.kind=3 then d3S s.name&&d3Y s&&d3W s.ex&&d3X s.lo&&d3X s.hi&&s.body.all stB
  else false:=by
 cases s
 rw[stB,d4A];rfl
def paB (p:Pa):Bool:=d3S p.name&&tyB p.ty
def deB (d:De):Bool:=d3S d.name&&tyB d.ty
def fuB (f:Fu):Bool:=d3S f.name&&f.params.all paB&&tyB f.res&&f.body.all stB&&exB f.ret
mutual
def dEx:Exp→Nat
 |.mk _ _ _ _ l=>d4C l+1
def d4C:List Exp→Nat
 |[]=>0
 |e::r=>max (dEx e) (d4C r)
end
mutual
def dSt:St→Nat
 |.mk _ _ _ _ _ _ _ _ l=>d4D l+1
def d4D:List St→Nat
 |[]=>0
 |e::r=>max (dSt e) (d4D r)
end
theorem d4E (e:Exp):dEx e=d4C e.args+1:=by cases e;rfl
theorem d4F (s:St):dSt s=d4D s.body+1:=by cases s;rfl
theorem d4G:∀ e:Exp,dEx e≤szE e:=by
 refine Exp.ind fun e ih=>?_
 rw[d4E,d3J]
 have:∀ l:List Exp,(∀ a,a∈l→dEx a≤szE a)→d4C l≤d3H l:=by
  intro l
  induction l with
  |nil=>intro _;exact g9A _
  |cons x r ihr =>
   intro h
   have h1:=h x (by simp)
   have h2:=ihr fun a ha=>h a (by simp [ha])
   rw[d4C,d3K]
   omega
 have:=this e.args ih
 omega
theorem d4H:∀ e:St,dSt e≤szS e:=by
 refine St.ind fun e ih=>?_
 rw[d4F,d3L]
 have:∀ l:List St,(∀ a,a∈l→dSt a≤szS a)→d4D l≤d3I l:=by
  intro l
  induction l with
  |nil=>intro _;exact g9A _
  |cons x r ihr =>
   intro h
   have h1:=h x (by simp)
   have h2:=ihr fun a ha=>h a (by simp [ha])
   rw[d4D,d3M]
   omega
 have:=this e.body ih
 omega
def shE (e:Exp):Bool:=decide ((dEx e:Int)≤40)
mutual
def shS:St→Bool
 |.mk k n b t e lo hi nl l=>decide ((dSt (.mk k n b t e lo hi nl l):Int)≤40)&&shE e&&d4I l
def d4I:List St→Bool
 |[]=>true
 |s::r=>shS s&&d4I r
end
theorem d4J (l:List St):d4I l=l.all shS:=by
 induction l with
 |nil=>rfl
 |cons e r ih=>rw[d4I,ih];rfl
theorem d4K (s:St):shS s=(decide ((dSt s:Int)≤40)&&shE s.ex&&s.body.all shS):=by
 cases s
 rw[shS,d4J];rfl
def shF (f:Fu):Bool:=f.body.all shS&&shE f.ret
def d4L (p:Pg):Int :=
 if (p.funcs.all fuB&&p.decls.all deB&&p.body.all stB)=false then 1 else if (p.funcs.all shF&&p.body.all shS)=false then 3 else 0
structure Sy where
 typ:Ty
 loop:Bool
 low:Int
 high:Int
abbrev Ns:=List (Nm×Sy)
abbrev Fs:=List (Nm×Fu)
def d4M {α:Type} (k:Nm):List (Nm×α)→Option α
 |[]=>none
 |(j,x)::r=>if k=j then some x else d4M k r
abbrev tSy (s:Sy):List T:=[.int .i64 s.typ.kind,.int .i64 s.typ.bits,.int .i64 s.typ.len,.bool s.loop,.int .i64 s.low,.int .i64 s.high]
def d4N (t u:Ty):Bool:=if t.len≠u.len then false else if u.kind=1 then true else decide (t.kind=u.kind)&&decide (t.bits≤u.bits)
def lenZ (x:Int):Int:=if x=0 then 0 else (x.toNat.log2:Int)+1
def numT (n:Int):Ty:=if 4611686018427387904≤n then d2I else ⟨3,if lenZ n > 1 then lenZ n else 1,0⟩
def d4O (t:Ty):Bool:=decide (t.len=0)
def isBo (t:Ty):Bool:=decide (t=d2J)
abbrev Rt:=Ty×Int
def bad (e:Int):Rt:=(zTy,e)
def d4P (p:Ty→Bool) (l:List Ty) (r:Ty):Rt:=if l.all p then (r,0) else bad 6
def d4Q:List Ty→List Pa→Bool
 |t::r,p::ps=>d4N t p.ty&&d4Q r ps
 |_,_=>true
def d4R (fs:Fs) (nm:Nm) (l:List Ty):Rt :=
 match d4M nm fs with
 |none=>bad 4
 |some f=>if (l.length:Int)≠(f.params.length:Int) then bad 6 else if d4Q l f.params then (f.res,0) else bad 6
def d4S (a:Ty):List Ty→Ty→Option Ty
 |[],r=>some r
 |t::l,r=>if t.len≠0 then none else if t≠a then d4S a l d2I else d4S a l r
def d4T (l:List Ty):Rt :=
 match l with
 |[]=>bad 99
 |a::_=>match d4S a l a with
  |none=>bad 6
  |some r=>(⟨r.kind,r.bits,(l.length:Int)⟩,0)
def d4U (c x y:Ty):Rt:=if isBo c=false then bad 6 else if x=y then (x,0) else if d4O x&&d4O y then (d2I,0) else bad 6
def mx (x y:Int):Int:=if y > x then y else x
def d4V (x y:Ty) (w:Int):Rt×Int :=
 if x.kind≠3∨y.kind≠3∨x.len≠0∨y.len≠0 then (bad 6,w) else ((d2J,0),mx w (IntKind.i64.wrap (mx x.bits y.bits+1)))
def posM (ns:Ns) (e:Exp) (len:Int):Bool×Int :=
 let most:=IntKind.u64.wrap len
 if e.op=1 then (decide (e.val < most),0)
 else
  let two:=e.op=12∨e.op=13
  let nm:=if two then e.args.getD 0 default else e
  let off:=if two then (e.args.getD 1 default).val else 0
  if two∧(e.args.getD 1 default).op≠1 then (false,6)
  else if nm.op≠2 then (false,6)
  else match d4M nm.name ns with
   |none=>(false,4)
   |some s=>if s.loop=false then (false,6) else if s.low=s.high then (true,0) else
    let first:=IntKind.u64.wrap s.low
    let last:=IntKind.u64.wrap (IntKind.i64.wrap (s.high - 1))
    if e.op=13 then (decide (off≤first)&&decide (IntKind.u64.wrap (last - off) < most),0)
    else (decide (off < most)&&decide (IntKind.u64.wrap (last+off) < most),0)
def opM (fs:Fs) (ns:Ns) (op val:Int) (nm:Nm) (l:List Ty) (w:Int):Rt×Int :=
 if op=1 then ((numT val,0),w)
 else if op=3∨op=4 then ((d2J,0),w)
 else if op=2 then ((match d4M nm ns with|none=>bad 4|some s=>(s.typ,0)),w)
 else if op=5 then (d4R fs nm l,w)
 else if op=6 then (if 65536≤val then bad 8 else d4P d4O l d2I,w)
 else if op=7 then (d4T l,w)
 else if op=20 then (d4U (l.getD 0 zTy) (l.getD 1 zTy) (l.getD 2 zTy),w)
 else if op=14∨op=15 then (d4P d4O l d2J,w)
 else if op=16∨op=17 then d4V (l.getD 0 zTy) (l.getD 1 zTy) w
 else if op=10∨op=18∨op=19 then (d4P isBo l d2J,w)
 else (d4P d4O l d2I,w)
def idxM (ns:Ns) (r:Rt×Int) (b:Exp):Rt×Int :=
 if r.1.2≠0 then (bad r.1.2,r.2)
 else
  let q:=posM ns b r.1.1.len
  if q.2≠0 then (bad q.2,r.2) else if r.1.1.len=0 then (bad 6,r.2) else if q.1=false then (bad 8,r.2) else ((⟨r.1.1.kind,r.1.1.bits,0⟩,0),r.2)
mutual
def exM (fs:Fs) (ns:Ns):Exp→Int→Rt×Int
 |.mk op val nm _ l,w =>
  if op=8 then (match l with
   |a::b::_=>idxM ns (exM fs ns a w) b
   |_=>(bad 99,w))
  else
   let q:=exsM fs ns l w
   if q.1.2≠0 then (bad q.1.2,q.2) else opM fs ns op val nm q.1.1 q.2
def exsM (fs:Fs) (ns:Ns):List Exp→Int→(List Ty×Int)×Int
 |[],w=>(([],0),w)
 |a::r,w =>
  let q:=exM fs ns a w
  if q.1.2≠0 then (([],q.1.2),q.2) else
   let q2:=exsM fs ns r q.2
   if q2.1.2≠0 then (([],q2.1.2),q2.2) else ((q.1.1::q2.1.1,0),q2.2)
end
abbrev Rs:=Int×Ns×Int
def d4W (nm:Nm) (s:Sy) (ns:Ns) (w:Int):Rs:=match d4M nm ns with
 |some _=>(5,ns,w)
 |none=>(0,ns++[(nm,s)],w)
def d4X (t:Ty) (w:Int):Int:=if t.kind=3 then mx w t.bits else w
mutual
def stM (fs:Fs):St→Ns→Int→Rs
 |.mk k nm typed ty e lo hi _ l,ns,w =>
  if k=3 then (if lo > hi then (8,ns,w) else match d4W nm ⟨d2I,true,lo,hi⟩ ns w with
   |(d,ns1,w1)=>if d≠0 then (d,ns1,w1) else match stsM fs l ns1 w1 with
    |(d2,ns2,w2)=>if d2≠0 then (d2,ns2,w2) else (0,ns,w2))
  else
   let q:=exM fs ns e w
   if q.1.2≠0 then (q.1.2,ns,q.2)
   else if k=2 then (if q.1.1≠d2J then 6 else 0,ns,q.2)
   else if typed then (if (ty.len=0∧q.1.1.len≠0)∨(ty.len≠0∧d4N q.1.1 ty=false) then (6,ns,q.2) else d4W nm ⟨ty,false,0,0⟩ ns (d4X ty q.2))
   else d4W nm ⟨q.1.1,false,0,0⟩ ns q.2
def stsM (fs:Fs):List St→Ns→Int→Rs
 |[],ns,w=>(0,ns,w)
 |s::r,ns,w=>match stM fs s ns w with
  |(d,ns1,w1)=>if d≠0 then (d,ns1,w1) else stsM fs r ns1 w1
end
def mn (x y:Int):Int:=if y < x then y else x
abbrev Ks:=List (Nm×Int)
def d4Y (k:Nm) (l:Ks):Int:=(d4M k l).getD 0
mutual
def csE (ks:Ks):Exp→Int
 |.mk op _ nm _ l=>mn 20001 (csEs ks l (if op=5 then 1+d4Y nm ks else 0))
def csEs (ks:Ks):List Exp→Int→Int
 |[],n=>n
 |e::r,n=>csEs ks r (mn 20001 (n+csE ks e))
end
mutual
def bsS (ks:Ks):St→Int
 |.mk k _ _ _ e lo hi _ l=>if k=3 then (hi - lo) * bsSs ks l 0 else 1+csE ks e
def bsSs (ks:Ks):List St→Int→Int
 |[],n=>n
 |s::r,n=>bsSs ks r (mn (n+bsS ks s) 20001)
end
end Go.Ky

/- KX 7: stores that grow; maps with names for keys; slices of types. -/
namespace Go.Ky
open Go.Pi Go.Lx
def Grow (sg sg':Sg):Prop:=∃ r,sg'=sg++r
theorem Grow.refl (sg:Sg):Grow sg sg:=⟨[],by simp⟩
theorem Grow.trans {a b c:Sg} (h:Grow a b) (h':Grow b c):Grow a c:=by
 obtain⟨r,rfl⟩:=h
 obtain⟨r',rfl⟩:=h'
 exact⟨r++r',by rw[g6H]⟩
theorem Grow.app (sg r:Sg):Grow sg (sg++r):=⟨r,rfl⟩
theorem Grow.get {sg sg':Sg} (h:Grow sg sg') {i:Nat} {x:Bool×List PV} (hi:sg[i]?=some x):sg'[i]?=some x:=by
 obtain⟨r,rfl⟩:=h
 exact b1J hi
theorem Grow.len {sg sg':Sg} (h:Grow sg sg'):sg.length≤sg'.length:=by
 obtain⟨r,rfl⟩:=h
 simp
def Fr (c:Nat) (sg sg':Sg):Prop:=sg.length≤sg'.length∧∀ i,i < sg.length→i≠c→sg'[i]?=sg[i]?
theorem Fr.refl (c:Nat) (sg:Sg):Fr c sg sg:=⟨g8S _,fun _ _ _=>rfl⟩
theorem Fr.trans {c:Nat} {a b d:Sg} (h:Fr c a b) (h':Fr c b d):Fr c a d :=
 ⟨g8T h.1 h'.1,fun i hi hc=>(h'.2 i (g8U hi h.1) hc).trans (h.2 i hi hc)⟩
theorem Fr.of {c:Nat} {a b:Sg} (h:Grow a b):Fr c a b:=by
 obtain⟨r,rfl⟩:=h
 exact⟨by simp,fun i hi _=>g6V hi⟩
theorem Fr.get {c:Nat} {a b:Sg} (h:Fr c a b) {i:Nat} {x:Bool×List PV} (hi:a[i]?=some x) (hc:i≠c):b[i]?=some x:=by
 rw[h.2 i (g7B.1 hi).1 hc];exact hi
theorem Fr.set {c:Nat} {a b:Sg} (h:Fr c a b) (x:Bool×List PV):Fr c a (b.set c x):=by
 refine⟨by simpa using h.1,fun i hi hc=>?_⟩
 rw[g7F (fun e=>hc e.symm)]
 exact h.2 i hi hc
theorem d4Z {sg:Sg} {i:Nat} {x y:Bool×List PV} (h:sg[i]?=some x):(sg.set i y)[i]?=some y :=
 g7G (g7B.1 h).1
theorem d5A {sg:Sg} {i:Nat} {x:Bool×List PV} (h:sg[i]?=some x):i < sg.length:=(g7B.1 h).1
def ents {α:Type} (enc:α→T) (l:List (Nm×α)):List PV:=l.map fun p=>.tup [.t (.str p.1),.t (enc p.2)]
theorem d5B (s:Ty) (a b c:Int):(s.kind == a&&(s.bits == b&&s.len == c))=decide (s=⟨a,b,c⟩):=by
 cases s
 simp only[Ty.mk.injEq]
 rw[Bool.eq_iff_iff]
 simp
def SlT (sg:Sg) (v:PV) (ts:List Ty):Prop :=
 (ts=[]∧∃ k,v=.own k 3 [])∨∃ a cs,v=.ls a 0 ts.length 3∧sg[a]?=some (false,cs)∧cs.length=ts.length * 3∧∀ i t,ts[i]?=some t→(cs.drop (i * 3)).take 3=[.t (.int .i64 t.kind),.t (.int .i64 t.bits),.t (.int .i64 t.len)]
theorem SlT.grow {sg sg':Sg} {v:PV} {ts:List Ty} (h:SlT sg v ts) (hg:Grow sg sg'):SlT sg' v ts:=by
 rcases h with h|⟨a,cs,h1,h2,h3⟩
 ·exact .inl h
 ·exact .inr ⟨a,cs,h1,hg.get h2,h3⟩
theorem SlT.len {sg:Sg} {v:PV} {ts:List Ty} (h:SlT sg v ts):lenP false v=some ts.length:=by
 rcases h with⟨rfl,k,rfl⟩|⟨a,cs,rfl,_⟩
 ·rfl
 ·rfl
theorem d5C {i n:Nat} (h:i < n) (hn:n≤281474976710656):IntKind.wrap .i64 ((i:Int)+1)=((i+1:Nat):Int):=by rw[IntWalk.i64_in _ (by omega)];omega
end Go.Ky

/- KX 8: the checker's store. -/
namespace Go.Ky
open Go.Pi Go.Lx
theorem d5D {sg sg':Sg} (h:∀ i:Nat,i < sg.length→sg'[i]?=sg[i]?):Grow sg sg':=by
 refine⟨sg'.drop sg.length,?_⟩
 apply List.ext_getElem?
 intro i
 rcases g8V i sg.length with hi|hi
 ·rw[g6V hi,h i hi]
 ·rw[g6W hi,g6Y]
  congr 1
  omega
theorem Fr.grow {b:Nat} {sg sg0 sg':Sg} (hg:Grow sg sg0) (h:Fr b sg0 sg') (hb:sg.length≤b):Grow sg sg':=by
 refine d5D fun i hi=>?_
 rw[h.2 i (g8U hi hg.len) (by omega)]
 obtain⟨r,rfl⟩:=hg
 exact g6V hi
theorem d5E {sg:Sg} {i:Nat} {x:Bool×List PV} (h:sg[i]?=some x):sg.set i x=sg:=by
 apply List.ext_getElem?
 intro j
 by_cases hj:i=j
 ·subst hj
  rw[g7G (d5A h),h]
 ·rw[g7F hj]
structure Ck (sg:Sg) (c f n:Nat) (fs:Fs) (ns:Ns) (od:PV) (w:Int):Prop where
 c:sg[c]?=some (false,[.mp f,.mp n,od,.t (.int .i64 w)])
 f:sg[f]?=some (true,ents (fun x=>.agg (tFu x)) fs)
 n:sg[n]?=some (true,ents (fun x=>.agg (tSy x)) ns)
theorem Ck.fc {sg:Sg} {c f n:Nat} {fs:Fs} {ns:Ns} {od:PV} {w:Int} (h:Ck sg c f n fs ns od w):f≠c:=fun e=>by
 have h1:=h.c
 have h2:=h.f
 rw[e,h1] at h2
 injection h2 with h2
 injection h2 with h2 _
 cases h2
theorem Ck.nc {sg:Sg} {c f n:Nat} {fs:Fs} {ns:Ns} {od:PV} {w:Int} (h:Ck sg c f n fs ns od w):n≠c:=fun e=>by
 have h1:=h.c
 have h2:=h.n
 rw[e,h1] at h2
 injection h2 with h2
 injection h2 with h2 _
 cases h2
theorem Ck.grow {sg sg':Sg} {c f n:Nat} {fs:Fs} {ns:Ns} {od:PV} {w:Int} (h:Ck sg c f n fs ns od w) (hg:Grow sg sg'):Ck sg' c f n fs ns od w:=⟨hg.get h.c,hg.get h.f,hg.get h.n⟩
theorem Ck.fr {sg sg':Sg} {c f n:Nat} {fs:Fs} {ns:Ns} {od:PV} {w w':Int} (h:Ck sg c f n fs ns od w) (hr:Fr c sg sg') (hc:sg'[c]?=some (false,[.mp f,.mp n,od,.t (.int .i64 w')])):Ck sg' c f n fs ns od w':=⟨hc,hr.get h.f h.fc,hr.get h.n h.nc⟩
theorem d5F {sg:Sg} {c:Nat} (h:c < sg.length) (r:Sg):(sg++r)[c]?=sg[c]?:=g6V h
theorem d5G {sg:Sg} {c:Nat} (h:c < sg.length) (r:Sg) (x:Bool×List PV):(sg++r).set c x=sg.set c x++r:=List.set_append_left _ _ h
theorem gs0 {sg r:Sg} {c:Nat} {x:Bool×List PV}:(sg.set c x++r)[sg.length]?=r[0]?:=by
 have:=@b8U _ (sg.set c x) r
 rw[g7P] at this
 exact this
theorem gsk {sg r:Sg} {c k:Nat} {x:Bool×List PV}:(sg.set c x++r)[sg.length+k]?=r[k]?:=by
 have:=@b8V _ (sg.set c x) r k
 rw[g7P] at this
 exact this
theorem ss0 {sg r:Sg} {c:Nat} {x y:Bool×List PV}:(sg.set c x++r).set sg.length y=sg.set c x++r.set 0 y:=by
 have:=@b8W _ (sg.set c x) r y
 rw[g7P] at this
 exact this
theorem ssk {sg r:Sg} {c k:Nat} {x y:Bool×List PV}:(sg.set c x++r).set (sg.length+k) y=sg.set c x++r.set k y:=by
 have:=@b8X _ (sg.set c x) r y k
 rw[g7P] at this
 exact this
theorem gsc {sg r:Sg} {c:Nat} {x:Bool×List PV} (h:c < sg.length):(sg.set c x++r)[c]?=some x:=by
 rw[g6V (by simpa using h),g7G h]
theorem Fr.setapp (c:Nat) (sg:Sg) (x:Bool×List PV) (r:Sg):Fr c sg (sg.set c x++r):=by
 refine⟨by simp,fun i hi hc=>?_⟩
 rw[g6V (by simpa using hi),g7F (fun e=>hc e.symm)]
theorem Fr.app {c:Nat} {sg sg':Sg} (h:Fr c sg sg') (r:Sg):Fr c sg (sg'++r):=h.trans (Fr.of (.app _ _))
end Go.Ky

/- KX 9: what a region a1G; three cells of a row. -/
namespace Go.Ky
open Go.Pi Go.Lx
noncomputable def d5H (a b:Option (Bool×List PV)):Option Unit:=@ite _ (a=b) (Classical.propDecidable _) (some ()) none
theorem d5I (a:Option (Bool×List PV)):d5H a a=some ():=by unfold d5H;simp
noncomputable def d5J (sg sg':Sg):PV→Option Unit
 |.lp id _=>d5H sg'[id]? sg[id]?
 |_=>none
theorem d5K {fr:List PV} {sg sg':Sg}:b6H fr [] sg sg'=some ():=b6I (fun k h=>by cases h)
theorem d5L {fr:List PV} {k:Nat} {ks:List Nat} {sg sg':Sg}:b6H fr (k::ks) sg sg'=(d5J sg sg' (a0A fr k)).bind fun _=>b6H fr ks sg sg':=by
 by_cases h:a1G fr (k::ks) sg sg'
 ·rw[b6I h]
  obtain⟨id,off,h1,h2⟩:=h k (by simp)
  rw[h1]
  simp only[d5J,h2,d5I,Option.bind_some]
  rw[b6I (fun j hj=>h j (by simp [hj]))]
 ·have hn:b6H fr (k::ks) sg sg'=none:=by
   unfold b6H
   rw[if_neg (fun e=>h (keepsB_iff.1 e))]
  rw[hn]
  cases hk:d5J sg sg' (a0A fr k) with
  |none=>rfl
  |some u =>
   simp only[Option.bind_some]
   by_cases h2:a1G fr ks sg sg'
   ·exfalso
    apply h
    intro j hj
    rcases g7W.1 hj with e|e
    ·subst e
     cases hv:a0A fr j <;> rw[hv] at hk <;> simp only[d5J,reduceCtorEq] at hk
     rename_i id off
     refine⟨id,off,rfl,?_⟩
     unfold d5H at hk
     by_cases he:sg'[id]?=sg[id]?
     ·exact he
     ·simp [he] at hk
    ·exact h2 j e
   ·unfold b6H
    rw[if_neg (fun e=>h2 (keepsB_iff.1 e))]
def Fr2 (c a:Nat) (sg sg':Sg):Prop:=sg.length≤sg'.length∧∀ i,i < sg.length→i≠c→i≠a→sg'[i]?=sg[i]?
theorem Fr2.refl (c a:Nat) (sg:Sg):Fr2 c a sg sg:=⟨g8S _,fun _ _ _ _=>rfl⟩
theorem Fr2.trans {c a:Nat} {x y z:Sg} (h:Fr2 c a x y) (h':Fr2 c a y z):Fr2 c a x z :=
 ⟨g8T h.1 h'.1,fun i hi hc ha=>(h'.2 i (g8U hi h.1) hc ha).trans (h.2 i hi hc ha)⟩
theorem Fr2.of {c a:Nat} {x y:Sg} (h:Fr c x y):Fr2 c a x y:=⟨h.1,fun i hi hc _=>h.2 i hi hc⟩
theorem Fr2.get {c a:Nat} {x y:Sg} (h:Fr2 c a x y) {i:Nat} {v:Bool×List PV} (hi:x[i]?=some v) (hc:i≠c) (ha:i≠a):y[i]?=some v:=by
 rw[h.2 i (d5A hi) hc ha];exact hi
theorem Fr2.set {c a:Nat} {x y:Sg} (h:Fr2 c a x y) (v:Bool×List PV):Fr2 c a x (y.set a v):=by
 refine⟨by simpa using h.1,fun i hi hc ha=>?_⟩
 rw[g7F (fun e=>ha e.symm)]
 exact h.2 i hi hc ha
theorem Fr2.fr {c a:Nat} {sg x y:Sg} (hg:Fr c sg x) (h:Fr2 c a x y) (ha:sg.length≤a):Fr c sg y :=
 ⟨g8T hg.1 h.1,fun i hi hc=>(h.2 i (g8U hi hg.1) hc (by omega)).trans (hg.2 i hi hc)⟩
end Go.Ky

/- KX 30: the parser in plain words. No program in sight. -/
namespace Go.Ky
open Go.Pi Go.Lx
structure Ps where
 ts:List Tok
 err:Int
 pos:Int
 deep:Bool
 dat:Int
def d5M:Tok:=⟨0,[],0,0⟩
def Ps.hd (s:Ps):Tok:=s.ts.headD d5M
def d5N (l:List Tok):List Tok:=l.drop (l.length - 1)
def d5O (e:Int) (s:Ps):Ps:=⟨d5N s.ts,if s.err=0 then e else s.err,if s.err=0 then (s.hd.pos:Int) else s.pos,s.deep,s.dat⟩
def d5P (s:Ps):Ps:={ s with ts:=if 1 < s.ts.length then s.ts.drop 1 else s.ts }
def atM (t:Nm) (s:Ps):Bool:=decide (s.hd.kind≠0)&&decide (s.hd.text=t)
def d5Q (t:Nm) (s:Ps):Ps:=if atM t s then d5P s else s
def d5R (t:Nm) (s:Ps):Ps:=if atM t s then d5P s else d5O 2 s
def d5S (s:Ps):Nm×Ps:=if s.hd.kind≠1 then ([],d5O 2 s) else (s.hd.text,d5P s)
def d5T (lo hi:Nat) (s:Ps):Int×Ps:=if s.hd.kind≠3∨s.hd.val < lo then (0,d5O 2 s) else if hi < s.hd.val then (0,d5O 3 s) else (IntKind.i64.wrap (s.hd.val:Int),d5P s)
def d5U (pos:Int) (b:Bool) (s:Ps):Ps:=if b&&!s.deep then { s with deep:=true,dat:=pos } else s
def ops:Nat→List (Nm×Int)
 |0=>[([111,114],19)]
 |1=>[([97,110,100],18)]
 |2=>[([61,61],14),([33,61],15),([60],16),([60,61],17)]
 |3=>[([43],12),([45],13)]
 |4=>[([42],11)]
 |_=>[]
def d5V (s:Ps):List (Nm×Int)→Option Int
 |[]=>none
 |(t,o)::r=>if atM t s then some o else d5V s r
def opL (lv:Nat) (s:Ps):Option Int:=d5V s (ops lv)
def nod (op:Int) (l:List Exp):Exp:=.mk op 0 [] l.isEmpty l
def zEx:Exp:=.mk 0 0 [] true []
mutual
def d5W:Nat→Ps→Exp×Ps
 |0,s=>(zEx,s)
 |n+1,s =>
  if atM [63] (d5X n 0 s).2 then
   (nod 20 [(d5X n 0 s).1,(d5W n (d5P (d5X n 0 s).2)).1,(d5W n (d5R [58] (d5W n (d5P (d5X n 0 s).2)).2)).1],(d5W n (d5R [58] (d5W n (d5P (d5X n 0 s).2)).2)).2)
  else d5X n 0 s
def d5X:Nat→Nat→Ps→Exp×Ps
 |0,_,s=>(zEx,s)
 |n+1,lv,s=>if lv=5 then unM n s else d5Y n lv (d5X n (lv+1) s).1 (d5X n (lv+1) s).2
def d5Y:Nat→Nat→Exp→Ps→Exp×Ps
 |0,_,e,s=>(e,s)
 |n+1,lv,e,s=>match opL lv s with
  |none=>(e,s)
  |some o=>if lv=2 then (nod o [e,(d5X n (lv+1) (d5P s)).1],(d5X n (lv+1) (d5P s)).2)
   else d5Y n lv (nod o [e,(d5X n (lv+1) (d5P s)).1]) (d5X n (lv+1) (d5P s)).2
def unM:Nat→Ps→Exp×Ps
 |0,s=>(zEx,s)
 |n+1,s =>
  if atM [45] s then (nod 9 [(unM n (d5P s)).1],(unM n (d5P s)).2)
  else if atM [110,111,116] s then (nod 10 [(unM n (d5P s)).1],(unM n (d5P s)).2)
  else d5Z n (d6A n s).1 (d6A n s).2
def d5Z:Nat→Exp→Ps→Exp×Ps
 |0,e,s=>(e,s)
 |n+1,e,s=>if atM [91] s then d5Z n (nod 8 [e,(d5W n (d5P s)).1]) (d5R [93] (d5W n (d5P s)).2) else (e,s)
def d6A:Nat→Ps→Exp×Ps
 |0,s=>(zEx,s)
 |n+1,s =>
  if s.hd.kind=3 then (.mk 1 s.hd.val [] true [],d5P s)
  else if s.hd.kind=1 then
   (if atM [40] (d5P s) then (.mk 5 0 s.hd.text (d6B n (d5P (d5P s))).1.isEmpty (d6B n (d5P (d5P s))).1,(d6B n (d5P (d5P s))).2) else (.mk 2 0 s.hd.text true [],d5P s))
  else if atM [116,114,117,101] s then (nod 3 [],d5P s)
  else if atM [102,97,108,115,101] s then (nod 4 [],d5P s)
  else if atM [104,97,115,104] s then d6C n (d5P s)
  else if atM [91] s then (nod 7 (d6D n (d5P s)).1,d5R [93] (d6D n (d5P s)).2)
  else if atM [40] s then ((d5W n (d5P s)).1,d5R [41] (d5W n (d5P s)).2)
  else (zEx,d5O 2 s)
def d6B:Nat→Ps→List Exp×Ps
 |0,s=>([],s)
 |n+1,s=>if atM [41] s then ([],d5P s) else ((d6D n s).1,d5R [41] (d6D n s).2)
def d6C:Nat→Ps→Exp×Ps
 |0,s=>(zEx,s)
 |n+1,s =>
  if (d5R [40] s).hd.kind≠3 then (zEx,d5O 2 (d5R [40] s))
  else (.mk 6 (d5R [40] s).hd.val [] (d6D n (d5R [59] (d5P (d5R [40] s)))).1.isEmpty (d6D n (d5R [59] (d5P (d5R [40] s)))).1,d5R [41] (d6D n (d5R [59] (d5P (d5R [40] s)))).2)
def d6D:Nat→Ps→List Exp×Ps
 |0,s=>([],s)
 |n+1,s=>d6E n [(d5W n s).1] (d5W n s).2
def d6E:Nat→List Exp→Ps→List Exp×Ps
 |0,l,s=>(l,s)
 |n+1,l,s=>if atM [44] s then d6E n (l++[(d5W n (d5P s)).1]) (d5W n (d5P s)).2 else (l,s)
end
def d6F (s:Ps):Ty×Ps :=
 if atM [102,105,101,108,100] s then (⟨1,0,0⟩,d5P s)
 else if atM [98,111,111,108] s then (⟨2,0,0⟩,d5P s)
 else if atM [117,105,110,116] s then (⟨3,(d5T 1 62 (d5P s)).1,0⟩,(d5T 1 62 (d5P s)).2)
 else (⟨0,0,0⟩,d5O 2 s)
def tyM (s:Ps):Ty×Ps :=
 if atM [91] (d6F s).2 then (⟨(d6F s).1.kind,(d6F s).1.bits,(d5T 1 64 (d5P (d6F s).2)).1⟩,d5R [93] (d5T 1 64 (d5P (d6F s).2)).2)
 else d6F s
def d6G (s:Ps):Pa×Ps:=(⟨(d5S s).1,(tyM (d5R [58] (d5S s).2)).1⟩,(tyM (d5R [58] (d5S s).2)).2)
def atS (s:Ps):Bool:=atM [108,101,116] s || (atM [97,115,115,101,114,116] s || atM [102,111,114] s)
def d6H (x:St):Bool:=decide (d4L ⟨true,[],true,[],false,[x]⟩=3)
def d6I (n:Nat) (s:Ps):St×Ps :=
 let a:=d5S s
 let ty:=if atM [58] a.2 then tyM (d5P a.2) else (zTy,a.2)
 let e:=d5W n (d5R [61] ty.2)
 (.mk 1 a.1 (atM [58] a.2) ty.1 e.1 0 0 true [],d5R [59] e.2)
def d6J (n:Nat) (s:Ps):St×Ps :=
 let e:=d5W n s
 (.mk 2 [] false zTy e.1 0 0 true [],d5R [59] e.2)
mutual
def d6K:Nat→Ps→St×Ps
 |0,s=>(.mk 0 [] false zTy zEx 0 0 true [],s)
 |n+1,s =>
  if s.hd.text=[108,101,116] then d6I n (d5P s)
  else if s.hd.text=[97,115,115,101,114,116] then d6J n (d5P s)
  else if s.hd.text=[102,111,114] then
   (let a:=d5S (d5P s)
    let lo:=d5T 0 1000000 (d5R [105,110] a.2)
    let hi:=d5T 0 1000000 (d5R [46,46] lo.2)
    let b:=d6L n false [] (d5R [123] hi.2)
    (.mk 3 a.1 false zTy zEx lo.1 hi.1 b.1.isEmpty b.1,d5R [125] b.2))
  else (.mk 0 [] false zTy zEx 0 0 true [],d5P s)
def d6L:Nat→Bool→List St→Ps→List St×Ps
 |0,_,l,s=>(l,s)
 |n+1,o,l,s =>
  if atS s then d6L n o (l++[(d6K n s).1]) (if o then d5U s.hd.pos (d6H (d6K n s).1) (d6K n s).2 else (d6K n s).2)
  else (l,s)
end
def d6M:Nat→List Pa→Ps→List Pa×Ps
 |0,l,s=>(l,s)
 |n+1,l,s=>if atM [44] s then d6M n (l++[(d6G (d5P s)).1]) (d6G (d5P s)).2 else (l,s)
def d6N (n:Nat) (s:Ps):List Pa×Ps:=if atM [41] s then ([],s) else d6M n [(d6G s).1] (d6G s).2
def fnM (n:Nat) (s:Ps):Fu×Ps :=
 let a:=d5S (d5R [102,110] s)
 let ps:=d6N n (d5R [40] a.2)
 let ty:=tyM (d5R [58] (d5R [41] ps.2))
 let b:=d6L n true [] (d5R [123] ty.2)
 let e:=d5W n (d5R [114,101,116,117,114,110] b.2)
 (⟨a.1,ps.1.isEmpty,ps.1,ty.1,b.1.isEmpty,b.1,e.1⟩,d5R [125] (d5R [59] (d5U b.2.hd.pos (decide ((dEx e.1:Int) > 40)) e.2)))
def d6O (s:Ps):De×Ps :=
 let a:=d5S (d5P s)
 let ty:=tyM (d5R [58] a.2)
 (⟨decide (s.hd.text=[112,117,98,108,105,99]),a.1,ty.1⟩,d5R [59] ty.2)
def d6P:Nat→List Fu→Ps→List Fu×Ps
 |0,l,s=>(l,s)
 |n+1,l,s=>if atM [102,110] s then d6P n (l++[(fnM n s).1]) (fnM n s).2 else (l,s)
def d6Q:Nat→List De→Ps→List De×Ps
 |0,l,s=>(l,s)
 |n+1,l,s=>if atM [112,117,98,108,105,99] s || atM [115,101,99,114,101,116] s then d6Q n (l++[(d6O s).1]) (d6O s).2 else (l,s)
def d6R (s:Ps):Ps:=if s.hd.kind≠0 then d5O 2 s else s
def d6S (stop stopAt:Int) (s:Ps):Int×Int :=
 if s.err≠0∧(stop=0∨s.pos < stopAt) then (s.pos,s.err) else if stop≠0 then (stopAt,stop) else if s.deep then (s.dat,3) else (0,0)
def d6T (n:Nat) (s:Ps):Pg×Ps :=
 let f:=d6P n [] s
 let d:=d6Q n [] f.2
 let b:=d6L n true [] d.2
 (⟨f.1.isEmpty,f.1,d.1.isEmpty,d.1,b.1.isEmpty,b.1⟩,d6R b.2)
def st0 (l:List Tok):Ps:=⟨l,0,0,false,0⟩
end Go.Ky

/- KX 31: the parser's states: tokens left, sizes of what is read. -/
set_option linter.unusedSimpArgs false
set_option linter.unusedVariables false
namespace Go.Ky
open Go.Pi Go.Lx
structure WfT (l:List Tok):Prop where
 ne:l≠[]
 last:∀ t,l.getLast?=some t→t.kind=0
 mid:∀ t,t∈l.dropLast→t.kind≠0
 nam:∀ t,t∈l→t.kind=1→t.text.length≤24
theorem WfT.len {l:List Tok} (h:WfT l):1≤l.length:=by
 cases l with
 |nil=>exact absurd rfl h.ne
 |cons a r=>simp
theorem WfT.two {l:List Tok} (h:WfT l) (h0:(l.headD d5M).kind≠0):2≤l.length:=by
 match l,h with
 |[],h=>exact absurd rfl h.ne
 |[a],h=>exact absurd (h.last a rfl) h0
 |a::b::r,_=>simp
theorem WfT.drop {l:List Tok} (h:WfT l) {k:Nat} (hk:k < l.length):WfT (l.drop k):=by
 refine⟨fun e=>?_,fun t ht=>?_,fun t ht=>?_,fun t ht=>h.nam t (g8C ht)⟩
 ·have:=congrArg List.length e
  rw[g7M] at this
  simp at this;omega
 ·rw[List.getLast?_drop] at ht
  split at ht
  ·cases ht
  ·exact h.last t ht
 ·refine h.mid t ?_
  have e:(l.drop k).dropLast=l.dropLast.drop k:=by
   rw[List.dropLast_eq_take,List.dropLast_eq_take,g7M,List.drop_take]
   congr 1;omega
  rw[e] at ht
  exact g8C ht
def Suf (s s':Ps):Prop:=∃ k,k < s.ts.length∧s'.ts=s.ts.drop k
theorem Suf.refl {s:Ps} (h:WfT s.ts):Suf s s:=⟨0,h.len,by simp⟩
theorem Suf.trans {a b c:Ps} (h:Suf a b) (h':Suf b c):Suf a c:=by
 obtain⟨k,hk,e⟩:=h
 obtain⟨j,hj,e'⟩:=h'
 rw[e,g7M] at hj
 refine⟨k+j,by omega,by rw[e',e,g6M]⟩
theorem Suf.wf {a b:Ps} (h:Suf a b) (hw:WfT a.ts):WfT b.ts:=by
 obtain⟨k,hk,e⟩:=h
 rw[e];exact hw.drop hk
theorem Suf.le {a b:Ps} (h:Suf a b):b.ts.length≤a.ts.length:=by
 obtain⟨k,hk,e⟩:=h
 rw[e,g7M];omega
theorem d6U {s:Ps} (h:WfT s.ts) (e:Int):Suf s (d5O e s):=⟨s.ts.length - 1,by have:=h.len;omega,rfl⟩
theorem d6V {s:Ps} (h:WfT s.ts):Suf s (d5P s):=by
 unfold d5P
 by_cases h1:1 < s.ts.length
 ·exact⟨1,h1,by simp only[if_pos h1]⟩
 ·exact⟨0,h.len,by simp only[if_neg h1,g6O]⟩
theorem d6W {t:Nm} {s:Ps} (h:atM t s=true):s.hd.kind≠0:=by
 unfold atM at h
 simp only[g5U,g9N] at h
 exact h.1
theorem d6X {s:Ps} (h:WfT s.ts) (h0:s.hd.kind≠0):(d5P s).ts.length+1=s.ts.length:=by
 have:=h.two h0
 unfold d5P
 simp only
 rw[if_pos (by omega),g7M];omega
theorem d6Y {s:Ps} (h:WfT s.ts) (t:Nm):Suf s (d5R t s):=by
 unfold d5R
 split
 ·exact d6V h
 ·exact d6U h 2
theorem d6Z {s:Ps} (h:WfT s.ts):Suf s (d5S s).2:=by
 unfold d5S
 split
 ·exact d6U h 2
 ·exact d6V h
theorem d7A {s:Ps} (h:WfT s.ts) (lo hi:Nat):Suf s (d5T lo hi s).2:=by
 unfold d5T
 split
 ·exact d6U h 2
 ·split
  ·exact d6U h 3
  ·exact d6V h
theorem d7B (pos:Int) (b:Bool) (s:Ps):(d5U pos b s).ts=s.ts:=by
 unfold d5U
 split <;> rfl
theorem d7C {s:Ps} (h:WfT s.ts) (pos:Int) (b:Bool):Suf s (d5U pos b s):=⟨0,h.len,by rw[d7B,g6O]⟩
theorem d7D {s:Ps} (h:WfT s.ts):Suf s (d6F s).2:=by
 unfold d6F
 repeat' split
 ·exact d6V h
 ·exact d6V h
 ·exact(d6V h).trans (d7A ((d6V h).wf h) _ _)
 ·exact d6U h 2
theorem d7E {s:Ps} (h:WfT s.ts):Suf s (tyM s).2:=by
 have h1:=d7D h
 have w1:=h1.wf h
 unfold tyM
 split
 ·have h2:=d6V w1
  have w2:=h2.wf w1
  have h3:=d7A w2 1 64
  exact((h1.trans h2).trans h3).trans (d6Y (h3.wf w2) _)
 ·exact h1
theorem d7F {s:Ps} (h:WfT s.ts):Suf s (d6G s).2:=by
 have h1:=d6Z h
 have w1:=h1.wf h
 have h2:=d6Y w1 [58]
 exact(h1.trans h2).trans (d7E (h2.wf w1))
structure Rd (s:Ps) (z c:Nat) (s':Ps):Prop where
 suf:Suf s s'
 sz:z+64 * s'.ts.length≤64 * s.ts.length+c
theorem d7G (o:Int) (l:List Exp):szE (nod o l)=4+d3H l:=by
 unfold nod
 rw[d3J];simp [Exp.name,Exp.args]
theorem d7H (a b:List Exp):d3H (a++b)=d3H a+d3H b:=by
 induction a with
 |nil=>rw[g8F];show _=0+_;omega
 |cons x r ih=>rw[g6L,d3K,d3K,ih];omega
theorem d7I (a:Exp):d3H [a]=szE a:=by rw[d3K];show _+0=_;omega
theorem d7J (a b:Exp):d3H [a,b]=szE a+szE b:=by rw[d3K,d7I]
theorem d7K (a b c:Exp):d3H [a,b,c]=szE a+szE b+szE c:=by rw[d3K,d7J];omega
theorem d7L:szE zEx=4:=by rw[d3J];rfl
theorem d7M {s:Ps}:∀ {l:List (Nm×Int)} {o:Int},d5V s l=some o→s.hd.kind≠0
 |[],_,h=>by cases h
 |(t,o)::r,_,h=>by
  rw[d5V] at h
  split at h
  ·rename_i ha;exact d6W ha
  ·exact d7M h
structure RdAll (n:Nat):Prop where
 ex:∀ s,WfT s.ts→Rd s (szE (d5W n s).1) 4 (d5W n s).2
 bi:∀ lv s,WfT s.ts→Rd s (szE (d5X n lv s).1) 4 (d5X n lv s).2
 bl:∀ lv e s,WfT s.ts→Rd s (szE (d5Y n lv e s).1) (szE e) (d5Y n lv e s).2
 un:∀ s,WfT s.ts→Rd s (szE (unM n s).1) 4 (unM n s).2
 il:∀ e s,WfT s.ts→Rd s (szE (d5Z n e s).1) (szE e) (d5Z n e s).2
 pr:∀ s,WfT s.ts→Rd s (szE (d6A n s).1) 4 (d6A n s).2
 ar:∀ s,WfT s.ts→Rd s (d3H (d6B n s).1) 4 (d6B n s).2
 ha:∀ s,WfT s.ts→Rd s (szE (d6C n s).1) 12 (d6C n s).2
 li:∀ s,WfT s.ts→Rd s (d3H (d6D n s).1) 4 (d6D n s).2
 ll:∀ l s,WfT s.ts→Rd s (d3H (d6E n l s).1) (d3H l) (d6E n l s).2
theorem d7N:RdAll 0:=by
 have z:=d7L
 constructor
 ·intro s h;rw[d5W];exact⟨.refl h,by simp only;omega⟩
 ·intro lv s h;rw[d5X];exact⟨.refl h,by simp only;omega⟩
 ·intro lv e s h;rw[d5Y];exact⟨.refl h,by simp only;omega⟩
 ·intro s h;rw[unM];exact⟨.refl h,by simp only;omega⟩
 ·intro e s h;rw[d5Z];exact⟨.refl h,by simp only;omega⟩
 ·intro s h;rw[d6A];exact⟨.refl h,by simp only;omega⟩
 ·intro s h;rw[d6B];exact⟨.refl h,by show 0+64 * s.ts.length≤_;omega⟩
 ·intro s h;rw[d6C];exact⟨.refl h,by simp only;omega⟩
 ·intro s h;rw[d6D];exact⟨.refl h,by show 0+64 * s.ts.length≤_;omega⟩
 ·intro l s h;rw[d6E];exact⟨.refl h,by simp only;omega⟩
theorem d7O {n:Nat} (ih:RdAll n):RdAll (n+1):=by
 have z:=d7L
 constructor
 ·intro s h
  rw[d5W]
  have h1:=ih.bi 0 s h
  have w1:=h1.suf.wf h
  split
  ·rename_i ha
   have h2:=d6V w1
   have l2:=d6X w1 (d6W ha)
   have w2:=h2.wf w1
   have h3:=ih.ex _ w2
   have w3:=h3.suf.wf w2
   have h4:=d6Y w3 [58]
   have w4:=h4.wf w3
   have h5:=ih.ex _ w4
   refine⟨((h1.suf.trans h2).trans (h3.suf.trans h4)).trans h5.suf,?_⟩
   have a1:=h1.sz
   have a3:=h3.sz
   have a4:=h4.le
   have a5:=h5.sz
   simp only[d7G,d7K]
   omega
  ·exact h1
 ·intro lv s h
  rw[d5X]
  split
  ·exact ih.un s h
  ·have h1:=ih.bi (lv+1) s h
   have h2:=ih.bl lv (d5X n (lv+1) s).1 _ (h1.suf.wf h)
   refine⟨h1.suf.trans h2.suf,?_⟩
   have a1:=h1.sz
   have a2:=h2.sz
   omega
 ·intro lv e s h
  rw[d5Y]
  cases ho:opL lv s with
  |none=>exact⟨.refl h,by simp only;omega⟩
  |some o =>
   have h2:=d6V h
   have l2:=d6X h (d7M ho)
   have w2:=h2.wf h
   have h3:=ih.bi (lv+1) _ w2
   have w3:=h3.suf.wf w2
   have a3:=h3.sz
   simp only
   split
   ·refine⟨h2.trans h3.suf,?_⟩
    simp only[d7G,d7J]
    omega
   ·have h4:=ih.bl lv (nod o [e,(d5X n (lv+1) (d5P s)).1]) _ w3
    refine⟨(h2.trans h3.suf).trans h4.suf,?_⟩
    have a4:=h4.sz
    rw[d7G,d7J] at a4
    omega
 ·intro s h
  rw[unM]
  split
  ·rename_i ha
   have h2:=d6V h
   have l2:=d6X h (d6W ha)
   have h3:=ih.un _ (h2.wf h)
   refine⟨h2.trans h3.suf,?_⟩
   have a3:=h3.sz
   simp only[d7G,d7I]
   omega
  ·split
   ·rename_i ha
    have h2:=d6V h
    have l2:=d6X h (d6W ha)
    have h3:=ih.un _ (h2.wf h)
    refine⟨h2.trans h3.suf,?_⟩
    have a3:=h3.sz
    simp only[d7G,d7I]
    omega
   ·have h1:=ih.pr s h
    have h2:=ih.il (d6A n s).1 _ (h1.suf.wf h)
    refine⟨h1.suf.trans h2.suf,?_⟩
    have a1:=h1.sz
    have a2:=h2.sz
    omega
 ·intro e s h
  rw[d5Z]
  split
  ·rename_i ha
   have h2:=d6V h
   have l2:=d6X h (d6W ha)
   have w2:=h2.wf h
   have h3:=ih.ex _ w2
   have w3:=h3.suf.wf w2
   have h4:=d6Y w3 [93]
   have h5:=ih.il (nod 8 [e,(d5W n (d5P s)).1]) _ (h4.wf w3)
   refine⟨((h2.trans h3.suf).trans h4).trans h5.suf,?_⟩
   have a3:=h3.sz
   have a4:=h4.le
   have a5:=h5.sz
   rw[d7G,d7J] at a5
   omega
  ·exact⟨.refl h,by simp only;omega⟩
 ·intro s h
  rw[d6A]
  by_cases k3:s.hd.kind=3
  ·rw[if_pos k3]
   have l2:=d6X h (by omega)
   refine⟨d6V h,?_⟩
   simp only[d3J,Exp.name,Exp.args,g7O]
   show 4+0+0+_≤_
   omega
  rw[if_neg k3]
  by_cases k1:s.hd.kind=1
  ·rw[if_pos k1]
   have l2:=d6X h (by omega)
   have h2:=d6V h
   have w2:=h2.wf h
   have hn:s.hd.text.length≤24:=by
    unfold Ps.hd at k1 ⊢
    match hts:s.ts,h.ne with
    |a::r,_ =>
     rw[hts] at k1
     exact h.nam a (by rw[hts];simp) k1
   split
   ·rename_i ha
    have l3:=d6X w2 (d6W ha)
    have h3:=d6V w2
    have w3:=h3.wf w2
    have h4:=ih.ar _ w3
    refine⟨(h2.trans h3).trans h4.suf,?_⟩
    have a4:=h4.sz
    simp only[d3J,Exp.name,Exp.args]
    omega
   ·refine⟨h2,?_⟩
    simp only[d3J,Exp.name,Exp.args]
    show 4+_+0+_≤_
    omega
  rw[if_neg k1]
  split
  ·rename_i ha
   have l2:=d6X h (d6W ha)
   refine⟨d6V h,?_⟩
   simp only[d7G]
   show 4+0+_≤_
   omega
  split
  ·rename_i ha
   have l2:=d6X h (d6W ha)
   refine⟨d6V h,?_⟩
   simp only[d7G]
   show 4+0+_≤_
   omega
  split
  ·rename_i ha
   have l2:=d6X h (d6W ha)
   have h2:=d6V h
   have h3:=ih.ha _ (h2.wf h)
   refine⟨h2.trans h3.suf,?_⟩
   have:=h3.sz
   omega
  split
  ·rename_i ha
   have l2:=d6X h (d6W ha)
   have h2:=d6V h
   have w2:=h2.wf h
   have h3:=ih.li _ w2
   have h4:=d6Y (h3.suf.wf w2) [93]
   refine⟨(h2.trans h3.suf).trans h4,?_⟩
   have a3:=h3.sz
   have a4:=h4.le
   simp only[d7G]
   omega
  split
  ·rename_i ha
   have l2:=d6X h (d6W ha)
   have h2:=d6V h
   have w2:=h2.wf h
   have h3:=ih.ex _ w2
   have h4:=d6Y (h3.suf.wf w2) [41]
   refine⟨(h2.trans h3.suf).trans h4,?_⟩
   have a3:=h3.sz
   have a4:=h4.le
   simp only
   omega
  ·have h2:=d6U h 2
   refine⟨h2,?_⟩
   have:=h2.le
   simp only
   omega
 ·intro s h
  rw[d6B]
  split
  ·have h2:=d6V h
   refine⟨h2,?_⟩
   have:=h2.le
   show 0+_≤_
   simp only
   omega
  ·have h3:=ih.li s h
   have h4:=d6Y (h3.suf.wf h) [41]
   refine⟨h3.suf.trans h4,?_⟩
   have a3:=h3.sz
   have a4:=h4.le
   simp only
   omega
 ·intro s h
  rw[d6C]
  have h1:=d6Y h [40]
  have w1:=h1.wf h
  have a1:=h1.le
  split
  ·have h2:=d6U w1 2
   have a2:=h2.le
   refine⟨h1.trans h2,?_⟩
   simp only
   omega
  ·have h2:=d6V w1
   have w2:=h2.wf w1
   have a2:=h2.le
   have h3:=d6Y w2 [59]
   have w3:=h3.wf w2
   have a3:=h3.le
   have h4:=ih.li _ w3
   have w4:=h4.suf.wf w3
   have h5:=d6Y w4 [41]
   refine⟨((h1.trans h2).trans (h3.trans h4.suf)).trans h5,?_⟩
   have a4:=h4.sz
   have a5:=h5.le
   simp only[d3J,Exp.name,Exp.args,g7O]
   omega
 ·intro s h
  rw[d6D]
  have h1:=ih.ex s h
  have h2:=ih.ll [(d5W n s).1] _ (h1.suf.wf h)
  refine⟨h1.suf.trans h2.suf,?_⟩
  have a1:=h1.sz
  have a2:=h2.sz
  rw[d7I] at a2
  omega
 ·intro l s h
  rw[d6E]
  split
  ·rename_i ha
   have l2:=d6X h (d6W ha)
   have h2:=d6V h
   have w2:=h2.wf h
   have h3:=ih.ex _ w2
   have h4:=ih.ll (l++[(d5W n (d5P s)).1]) _ (h3.suf.wf w2)
   refine⟨(h2.trans h3.suf).trans h4.suf,?_⟩
   have a3:=h3.sz
   have a4:=h4.sz
   rw[d7H,d7I] at a4
   omega
  ·exact⟨.refl h,by simp only;omega⟩
theorem d7P:∀ n,RdAll n
 |0=>d7N
 |n+1=>d7O (d7P n)
end Go.Ky

/- KX 32: the parser does not d4M at the places of tokens. -/
namespace Go.Ky
open Go.Pi Go.Lx
structure Eqv (s s':Ps):Prop where
 ts:Lx.Alike s.ts s'.ts
 err:s.err=s'.err
 deep:s.deep=s'.deep
theorem d7Q:∀ (k:Nat) {a b:List Tok},Lx.Alike a b→Lx.Alike (a.drop k) (b.drop k)
 |0,a,b,h=>by simpa using h
 |k+1,[],[],_=>by simp;trivial
 |k+1,[],_::_,h=>by cases h
 |k+1,_::_,[],h=>by cases h
 |k+1,_::a,_::b,h=>by simpa using d7Q k h.2
theorem d7R {s s':Ps} (h:Eqv s s'):like s.hd s'.hd:=by
 have ht:=h.ts
 unfold Ps.hd
 match ha:s.ts,hb:s'.ts,ht with
 |[],[],_=>exact⟨rfl,rfl,rfl⟩
 |[],_::_,h=>cases h
 |_::_,[],h=>cases h
 |a::_,b::_,h=>exact h.1
theorem d7S {s s':Ps} (h:Eqv s s') (t:Nm):atM t s=atM t s':=by
 obtain⟨h1,h2,_⟩:=d7R h
 unfold atM
 rw[h1,h2]
theorem d7T {s s':Ps} (h:Eqv s s'):Eqv (d5P s) (d5P s'):=by
 have hl:=d1L h.ts
 refine⟨?_,h.err,h.deep⟩
 unfold d5P
 simp only[hl]
 split
 ·exact d7Q 1 h.ts
 ·exact h.ts
theorem d7U {s s':Ps} (h:Eqv s s') (e:Int):Eqv (d5O e s) (d5O e s'):=by
 have hl:=d1L h.ts
 refine⟨?_,?_,h.deep⟩
 ·show Lx.Alike (d5N s.ts) (d5N s'.ts)
  unfold d5N
  rw[hl]
  exact d7Q _ h.ts
 ·show(if s.err=0 then e else s.err)=if s'.err=0 then e else s'.err
  rw[h.err]
theorem d7V {s s':Ps} (h:Eqv s s') (t:Nm):Eqv (d5R t s) (d5R t s'):=by
 unfold d5R
 rw[d7S h t]
 split
 ·exact d7T h
 ·exact d7U h 2
theorem d7W {s s':Ps} (h:Eqv s s'):(d5S s).1=(d5S s').1∧Eqv (d5S s).2 (d5S s').2:=by
 obtain⟨h1,h2,_⟩:=d7R h
 unfold d5S
 rw[h1,h2]
 split
 ·exact⟨rfl,d7U h 2⟩
 ·exact⟨rfl,d7T h⟩
theorem d7X {s s':Ps} (h:Eqv s s') (lo hi:Nat):(d5T lo hi s).1=(d5T lo hi s').1∧Eqv (d5T lo hi s).2 (d5T lo hi s').2:=by
 obtain⟨h1,_,h3⟩:=d7R h
 unfold d5T
 rw[h1,h3]
 split
 ·exact⟨rfl,d7U h 2⟩
 ·split
  ·exact⟨rfl,d7U h 3⟩
  ·exact⟨rfl,d7T h⟩
theorem d7Y {s s':Ps} (h:Eqv s s') (p p':Int) (b:Bool):Eqv (d5U p b s) (d5U p' b s'):=by
 unfold d5U
 rw[h.deep]
 split
 ·exact⟨h.ts,h.err,rfl⟩
 ·exact h
theorem d7Z {s s':Ps} (h:Eqv s s'):(d6F s).1=(d6F s').1∧Eqv (d6F s).2 (d6F s').2:=by
 have hn:=d7X (d7T h) 1 62
 unfold d6F
 rw[d7S h,d7S h,d7S h]
 split
 ·exact⟨rfl,d7T h⟩
 ·split
  ·exact⟨rfl,d7T h⟩
  ·split
   ·exact⟨by rw[hn.1],hn.2⟩
   ·exact⟨rfl,d7U h 2⟩
theorem d8A {s s':Ps} (h:Eqv s s'):(tyM s).1=(tyM s').1∧Eqv (tyM s).2 (tyM s').2:=by
 obtain⟨k1,k2⟩:=d7Z h
 have hn:=d7X (d7T k2) 1 64
 unfold tyM
 rw[d7S k2,k1]
 split
 ·exact⟨by rw[hn.1],d7V hn.2 _⟩
 ·exact⟨k1,k2⟩
theorem d8B {s s':Ps} (h:Eqv s s'):(d6G s).1=(d6G s').1∧Eqv (d6G s).2 (d6G s').2:=by
 obtain⟨k1,k2⟩:=d7W h
 obtain⟨t1,t2⟩:=d8A (d7V k2 [58])
 unfold d6G
 exact⟨by rw[k1,t1],t2⟩
theorem d8C {s s':Ps} (h:Eqv s s') (lv:Nat):opL lv s=opL lv s':=by
 unfold opL
 generalize ops lv=l
 induction l with
 |nil=>rfl
 |cons p r ih =>
  obtain⟨t,o⟩:=p
  rw[d5V,d5V,d7S h t,ih]
abbrev Sm {α:Type} (a b:α×Ps):Prop:=a.1=b.1∧Eqv a.2 b.2
structure EqAll (n:Nat):Prop where
 ex:∀ s s',Eqv s s'→Sm (d5W n s) (d5W n s')
 bi:∀ lv s s',Eqv s s'→Sm (d5X n lv s) (d5X n lv s')
 bl:∀ lv e s s',Eqv s s'→Sm (d5Y n lv e s) (d5Y n lv e s')
 un:∀ s s',Eqv s s'→Sm (unM n s) (unM n s')
 il:∀ e s s',Eqv s s'→Sm (d5Z n e s) (d5Z n e s')
 pr:∀ s s',Eqv s s'→Sm (d6A n s) (d6A n s')
 ar:∀ s s',Eqv s s'→Sm (d6B n s) (d6B n s')
 ha:∀ s s',Eqv s s'→Sm (d6C n s) (d6C n s')
 li:∀ s s',Eqv s s'→Sm (d6D n s) (d6D n s')
 ll:∀ l s s',Eqv s s'→Sm (d6E n l s) (d6E n l s')
theorem d8D:∀ n,EqAll n:=by
 intro n
 induction n with
 |zero =>
  constructor
  ·intro s s' h;rw[d5W,d5W];exact⟨rfl,h⟩
  ·intro lv s s' h;rw[d5X,d5X];exact⟨rfl,h⟩
  ·intro lv e s s' h;rw[d5Y,d5Y];exact⟨rfl,h⟩
  ·intro s s' h;rw[unM,unM];exact⟨rfl,h⟩
  ·intro e s s' h;rw[d5Z,d5Z];exact⟨rfl,h⟩
  ·intro s s' h;rw[d6A,d6A];exact⟨rfl,h⟩
  ·intro s s' h;rw[d6B,d6B];exact⟨rfl,h⟩
  ·intro s s' h;rw[d6C,d6C];exact⟨rfl,h⟩
  ·intro s s' h;rw[d6D,d6D];exact⟨rfl,h⟩
  ·intro l s s' h;rw[d6E,d6E];exact⟨rfl,h⟩
 |succ n ih =>
  constructor
  ·intro s s' h
   obtain⟨a1,a2⟩:=ih.bi 0 s s' h
   obtain⟨b1,b2⟩:=ih.ex _ _ (d7T a2)
   obtain⟨c1,c2⟩:=ih.ex _ _ (d7V b2 [58])
   rw[d5W,d5W,d7S a2]
   split
   ·exact⟨by rw[a1,b1,c1],c2⟩
   ·exact⟨a1,a2⟩
  ·intro lv s s' h
   rw[d5X,d5X]
   split
   ·exact ih.un s s' h
   ·obtain⟨a1,a2⟩:=ih.bi (lv+1) s s' h
    rw[a1]
    exact ih.bl lv _ _ _ a2
  ·intro lv e s s' h
   rw[d5Y,d5Y,d8C h lv]
   cases opL lv s' with
   |none=>exact⟨rfl,h⟩
   |some o =>
    obtain⟨a1,a2⟩:=ih.bi (lv+1) _ _ (d7T h)
    simp only
    split
    ·exact⟨by rw[a1],a2⟩
    ·rw[a1];exact ih.bl lv _ _ _ a2
  ·intro s s' h
   obtain⟨a1,a2⟩:=ih.un _ _ (d7T h)
   obtain⟨b1,b2⟩:=ih.pr _ _ h
   rw[unM,unM,d7S h,d7S h]
   split
   ·exact⟨by rw[a1],a2⟩
   ·split
    ·exact⟨by rw[a1],a2⟩
    ·rw[b1];exact ih.il _ _ _ b2
  ·intro e s s' h
   obtain⟨a1,a2⟩:=ih.ex _ _ (d7T h)
   rw[d5Z,d5Z,d7S h]
   split
   ·rw[a1];exact ih.il _ _ _ (d7V a2 _)
   ·exact⟨rfl,h⟩
  ·intro s s' h
   obtain⟨h1,h2,h3⟩:=d7R h
   have ht:=d7T h
   obtain⟨a1,a2⟩:=ih.ar _ _ (d7T ht)
   obtain⟨b1,b2⟩:=ih.li _ _ ht
   obtain⟨c1,c2⟩:=ih.ex _ _ ht
   rw[d6A,d6A,h1,h2,h3,d7S ht,d7S h,d7S h,d7S h,d7S h,d7S h]
   split
   ·exact⟨rfl,ht⟩
   split
   ·split
    ·exact⟨by rw[a1],a2⟩
    ·exact⟨rfl,ht⟩
   split
   ·exact⟨rfl,ht⟩
   split
   ·exact⟨rfl,ht⟩
   split
   ·exact ih.ha _ _ ht
   split
   ·exact⟨by rw[b1],d7V b2 _⟩
   split
   ·exact⟨c1,d7V c2 _⟩
   ·exact⟨rfl,d7U h 2⟩
  ·intro s s' h
   obtain⟨b1,b2⟩:=ih.li _ _ h
   rw[d6B,d6B,d7S h]
   split
   ·exact⟨rfl,d7T h⟩
   ·exact⟨b1,d7V b2 _⟩
  ·intro s s' h
   have h1:=d7V h [40]
   obtain⟨k1,k2,k3⟩:=d7R h1
   obtain⟨b1,b2⟩:=ih.li _ _ (d7V (d7T h1) [59])
   rw[d6C,d6C,k1,k3]
   split
   ·exact⟨rfl,d7U h1 2⟩
   ·exact⟨by rw[b1],d7V b2 _⟩
  ·intro s s' h
   obtain⟨a1,a2⟩:=ih.ex _ _ h
   rw[d6D,d6D,a1]
   exact ih.ll _ _ _ a2
  ·intro l s s' h
   obtain⟨a1,a2⟩:=ih.ex _ _ (d7T h)
   rw[d6E,d6E,d7S h]
   split
   ·rw[a1];exact ih.ll _ _ _ a2
   ·exact⟨rfl,h⟩
theorem d8E {n:Nat} {s s':Ps} (h:Eqv s s'):Sm (d6I n s) (d6I n s'):=by
 obtain⟨a1,a2⟩:=d7W h
 obtain⟨t1,t2⟩:=d8A (d7T a2)
 unfold d6I
 simp only
 rw[a1,d7S a2]
 split
 ·obtain⟨e1,e2⟩:=(d8D n).ex _ _ (d7V t2 [61])
  exact⟨by simp only;rw[t1,e1],d7V e2 _⟩
 ·obtain⟨e1,e2⟩:=(d8D n).ex _ _ (d7V a2 [61])
  exact⟨by simp only;rw[e1],d7V e2 _⟩
theorem d8F {n:Nat} {s s':Ps} (h:Eqv s s'):Sm (d6J n s) (d6J n s'):=by
 obtain⟨e1,e2⟩:=(d8D n).ex _ _ h
 unfold d6J
 exact⟨by simp only;rw[e1],d7V e2 _⟩
theorem d8G:∀ n,(∀ s s',Eqv s s'→Sm (d6K n s) (d6K n s'))∧∀ o l s s',Eqv s s'→Sm (d6L n o l s) (d6L n o l s'):=by
 intro n
 induction n with
 |zero =>
  constructor
  ·intro s s' h;rw[d6K,d6K];exact⟨rfl,h⟩
  ·intro o l s s' h;rw[d6L,d6L];exact⟨rfl,h⟩
 |succ n ih =>
  constructor
  ·intro s s' h
   obtain⟨_,h2,_⟩:=d7R h
   have ht:=d7T h
   obtain⟨a1,a2⟩:=d7W ht
   obtain⟨l1,l2⟩:=d7X (d7V a2 [105,110]) 0 1000000
   obtain⟨m1,m2⟩:=d7X (d7V l2 [46,46]) 0 1000000
   obtain⟨b1,b2⟩:=ih.2 false [] _ _ (d7V m2 [123])
   rw[d6K,d6K,h2]
   split
   ·exact d8E ht
   split
   ·exact d8F ht
   split
   ·exact⟨by simp only;rw[a1,l1,m1,b1],d7V b2 _⟩
   ·exact⟨rfl,ht⟩
  ·intro o l s s' h
   obtain⟨a1,a2⟩:=ih.1 _ _ h
   rw[d6L,d6L]
   unfold atS
   rw[d7S h,d7S h,d7S h]
   split
   ·rw[a1]
    cases o with
    |true=>exact ih.2 _ _ _ _ (d7Y a2 _ _ _)
    |false=>exact ih.2 _ _ _ _ a2
   ·exact⟨rfl,h⟩
theorem d8H:∀ n l s s',Eqv s s'→Sm (d6M n l s) (d6M n l s'):=by
 intro n
 induction n with
 |zero=>intro l s s' h;rw[d6M,d6M];exact⟨rfl,h⟩
 |succ n ih =>
  intro l s s' h
  obtain⟨a1,a2⟩:=d8B (d7T h)
  rw[d6M,d6M,d7S h]
  split
  ·rw[a1];exact ih _ _ _ a2
  ·exact⟨rfl,h⟩
theorem d8I {n:Nat} {s s':Ps} (h:Eqv s s'):Sm (d6N n s) (d6N n s'):=by
 obtain⟨a1,a2⟩:=d8B h
 unfold d6N
 rw[d7S h]
 split
 ·exact⟨rfl,h⟩
 ·rw[a1];exact d8H _ _ _ _ a2
theorem d8J {n:Nat} {s s':Ps} (h:Eqv s s'):Sm (fnM n s) (fnM n s'):=by
 obtain⟨a1,a2⟩:=d7W (d7V h [102,110])
 obtain⟨p1,p2⟩:=d8I (n:=n) (d7V a2 [40])
 obtain⟨t1,t2⟩:=d8A (d7V (d7V p2 [41]) [58])
 obtain⟨b1,b2⟩:=(d8G n).2 true [] _ _ (d7V t2 [123])
 obtain⟨e1,e2⟩:=(d8D n).ex _ _ (d7V b2 [114,101,116,117,114,110])
 unfold fnM
 exact⟨by simp only;rw[a1,p1,t1,b1,e1],by simp only;rw[e1];exact d7V (d7V (d7Y e2 _ _ _) _) _⟩
theorem d8K {s s':Ps} (h:Eqv s s'):Sm (d6O s) (d6O s'):=by
 obtain⟨_,h2,_⟩:=d7R h
 obtain⟨a1,a2⟩:=d7W (d7T h)
 obtain⟨t1,t2⟩:=d8A (d7V a2 [58])
 unfold d6O
 exact⟨by simp only;rw[h2,a1,t1],d7V t2 _⟩
theorem d8L:∀ n l s s',Eqv s s'→Sm (d6P n l s) (d6P n l s'):=by
 intro n
 induction n with
 |zero=>intro l s s' h;rw[d6P,d6P];exact⟨rfl,h⟩
 |succ n ih =>
  intro l s s' h
  obtain⟨a1,a2⟩:=d8J (n:=n) h
  rw[d6P,d6P,d7S h]
  split
  ·rw[a1];exact ih _ _ _ a2
  ·exact⟨rfl,h⟩
theorem d8M:∀ n l s s',Eqv s s'→Sm (d6Q n l s) (d6Q n l s'):=by
 intro n
 induction n with
 |zero=>intro l s s' h;rw[d6Q,d6Q];exact⟨rfl,h⟩
 |succ n ih =>
  intro l s s' h
  obtain⟨a1,a2⟩:=d8K h
  rw[d6Q,d6Q,d7S h,d7S h]
  split
  ·rw[a1];exact ih _ _ _ a2
  ·exact⟨rfl,h⟩
theorem d8N {n:Nat} {s s':Ps} (h:Eqv s s'):Sm (d6T n s) (d6T n s'):=by
 obtain⟨a1,a2⟩:=d8L n [] _ _ h
 obtain⟨b1,b2⟩:=d8M n [] _ _ a2
 obtain⟨c1,c2⟩:=(d8G n).2 true [] _ _ b2
 unfold d6T
 refine⟨by simp only;rw[a1,b1,c1],?_⟩
 simp only
 unfold d6R
 rw[(d7R c2).1]
 split
 ·exact d7U c2 2
 ·exact c2
theorem d8O {l l':List Tok} (h:Lx.Alike l l'):Eqv (st0 l) (st0 l'):=⟨h,rfl,rfl⟩
end Go.Ky

/- KX 33: what the lexer hands the parser; blanks and comments between tokens. -/
namespace Go.Ky
open Go.Pi Go.Lx
theorem d8P {s:List UInt8} {k n v:Nat} (h:next s=.ok k n v):k≠0∧(k=1→n≤24):=by
 match s with
 |[]=>cases h
 |c::r =>
  rw[next] at h
  split at h
  ·unfold d0V at h
   split at h
   ·injection h with a b c';subst a;exact⟨by decide,fun h=>by omega⟩
   ·split at h
    ·cases h
    ·injection h with a b c';subst a b;exact⟨by decide,fun _=>by omega⟩
  ·split at h
   ·unfold d0W at h
    split at h
    ·cases h
    ·split at h
     ·cases h
     ·injection h with a b c';subst a;exact⟨by decide,fun h=>by omega⟩
   ·split at h
    ·injection h with a b c';subst a;exact⟨by decide,fun h=>by omega⟩
    ·split at h
     ·injection h with a b c';subst a;exact⟨by decide,fun h=>by omega⟩
     ·cases h
theorem d8Q {t:Tok} {l:List Tok} (h:WfT l) (hk:t.kind≠0) (hn:t.kind=1→t.text.length≤24):WfT (t::l):=by
 refine⟨by simp,fun x hx=>?_,fun x hx=>?_,fun x hx=>?_⟩
 ·match l,h with
  |[],h=>exact absurd rfl h.ne
  |a::r,h=>exact h.last x (by simpa [List.getLast?_cons_cons] using hx)
 ·match l,h with
  |[],h=>exact absurd rfl h.ne
  |a::r,h =>
   rw[List.dropLast_cons_cons] at hx
   rcases g7W.1 hx with e|e
   ·subst e;exact hk
   ·exact h.mid x e
 ·rcases g7W.1 hx with e|e
  ·subst e;exact hn
  ·exact h.nam x e
theorem d8R:∀ (n:Nat) (s:List UInt8) (pos:Nat) (l:List Tok),s.length=n→d0X pos s=.toks l→WfT l:=by
 intro n
 induction n using Nat.strongRecOn with
 |_ n ih =>
  intro s pos l hs h
  rcases d1G s with h1|⟨h1,⟨e,hn⟩|⟨k,m,v,hn⟩⟩
  ·rw[d1D h1] at h
   injection h with h
   subst h
   exact⟨by simp,fun t ht=>by simp at ht;subst ht;rfl,fun t ht=>by simp at ht,fun t ht hk=>by simp at ht;subst ht;simp⟩
  ·rw[d1E h1 hn] at h;cases h
  ·rw[d1F h1 hn] at h
   have hp:=d1C hn
   cases hq:d0X (pos+gap s+m) (s.drop (gap s+m)) with
   |err p e=>rw[hq] at h;cases h
   |toks q =>
    rw[hq] at h
    injection h with h
    subst h
    have:=ih (s.drop (gap s+m)).length (by simp only[g7M] at hp ⊢;omega) _ _ q rfl hq
    obtain⟨k0,k1⟩:=d8P hn
    exact d8Q this k0 fun h1=>by have:=k1 h1;simp only[g7Q];omega
theorem d8S:∀ (n:Nat) (s:List UInt8) (pos:Nat) (l:List Tok),s.length=n→d0X pos s=.toks l→l.length≤s.length+1:=by
 intro n
 induction n using Nat.strongRecOn with
 |_ n ih =>
  intro s pos l hs h
  rcases d1G s with h1|⟨h1,⟨e,hn⟩|⟨k,m,v,hn⟩⟩
  ·rw[d1D h1] at h
   injection h with h
   subst h
   simp
  ·rw[d1E h1 hn] at h;cases h
  ·rw[d1F h1 hn] at h
   have hp:=d1C hn
   cases hq:d0X (pos+gap s+m) (s.drop (gap s+m)) with
   |err p e=>rw[hq] at h;cases h
   |toks q =>
    rw[hq] at h
    injection h with h
    subst h
    have:=ih (s.drop (gap s+m)).length (by simp only[g7M] at hp ⊢;omega) _ _ q rfl hq
    simp only[g7M,g7L] at this hp ⊢
    omega
def ahd (g0:List UInt8):List (Tok×List UInt8)→List (List UInt8×Tok)
 |[]=>[]
 |(t,g)::r=>(g0,t)::ahd g r
theorem b2Q:∀ (l:List (Tok×List UInt8)) (g0:List UInt8) (p:List UInt8×Tok),p∈ahd g0 l→p.1=g0∨p.1∈l.map (·.2)
 |[],_,p,h=>by simp [ahd] at h
 |(t,g)::r,g0,p,h=>by
  rw[ahd] at h
  rcases g7W.1 h with e|e
  ·subst e;exact .inl rfl
  ·rcases b2Q r g p e with e|e
   ·rw[e];simp
   ·right;simp only[g7T,g7W];exact .inr e
end Go.Ky

/- KX 34: a text ahead of a lexer's error has tokens; what Program hands back. -/
namespace Go.Ky
open Go.Pi Go.Lx
theorem d8T (p:UInt8→Bool):∀ (s:List UInt8) (n:Nat),d0P p s≤n→d0P p (s.take n)=d0P p s
 |[],n,_=>by simp [d0P]
 |c::r,0,h=>by
  rw[d0P] at h
  by_cases hc:p c=true
  ·rw[if_pos hc] at h;omega
  ·rw[d0P,if_neg hc];rfl
 |c::r,n+1,h=>by
  rw[g8J,d0P,d0P]
  rw[d0P] at h
  by_cases hc:p c=true
  ·rw[if_pos hc] at h
   rw[if_pos hc,if_pos hc,d8T p r n (by omega)]
  ·rw[if_neg hc,if_neg hc]
theorem d8U {s:List UInt8} {k m v:Nat} (h:next s=.ok k m v) {n:Nat} (hn:m≤n):next (s.take n)=.ok k m v:=by
 have hp:=d1C h
 match s,n,h with
 |[],_,h=>cases h
 |c::r,0,h=>omega
 |c::r,n+1,h =>
  have ht:∀ j,j≤n+1→((c::r).take (n+1)).take j=(c::r).take j:=fun j hj=>by rw[List.take_take];congr 1;omega
  rw[next] at h
  rw[g8J,next,←g8J]
  by_cases hl:d0L c=true
  ·rw[if_pos hl] at h ⊢
   unfold d0V at h ⊢
   have hm:d0P d0N (c::r)≤n+1:=by
    split at h
    ·injection h with _ h2 _;omega
    ·split at h
     ·cases h
     ·injection h with _ h2 _;omega
   rw[d8T _ _ _ hm,ht _ hm]
   exact h
  ·rw[if_neg hl] at h ⊢
   by_cases hd:d0M c=true
   ·rw[if_pos hd] at h ⊢
    unfold d0W at h ⊢
    have hm:d0P d0M (c::r)≤n+1:=by
     split at h
     ·cases h
     ·split at h
      ·cases h
      ·injection h with _ h2 _;omega
    rw[d8T _ _ _ hm,ht _ hm]
    rw[g8J,List.head?_cons]
    rw[List.head?_cons] at h
    exact h
   ·rw[if_neg hd] at h ⊢
    by_cases hpr:d0S c r=true
    ·rw[if_pos hpr] at h
     injection h with h1 h2 h3
     have:d0S c (r.take n)=true:=by
      match r,n,hpr with
      |[],_,hpr=>cases hpr
      |d::r',0,_=>omega
      |d::r',n'+1,hpr=>exact hpr
     rw[if_pos this,h1,h2,h3]
    ·rw[if_neg hpr] at h
     have:¬d0S c (r.take n)=true:=by
      match r,n,hpr with
      |[],_,_=>simp [d0S]
      |d::r',0,_=>simp [d0S]
      |d::r',n'+1,hpr=>exact hpr
     rw[if_neg this]
     exact h
theorem d8V:∀ (s:List UInt8) (m:Bool) (n:Nat),d0Q m s < n→d0Q m (s.take n)=d0Q m s
 |[],m,n,_=>by simp
 |c::r,m,0,h=>by omega
 |c::r,true,n+1,h=>by
  rw[d0Q] at h
  rw[g8J,d0Q,d0Q,d8V r _ n (by omega)]
 |c::r,false,n+1,h=>by
  rw[d0Q] at h
  rw[g8J,d0Q,d0Q]
  by_cases hb:d0O c=true
  ·rw[if_pos hb] at h
   rw[if_pos hb,if_pos hb,d8V r _ n (by omega)]
  ·rw[if_neg hb] at h
   rw[if_neg hb,if_neg hb]
   by_cases hc:(c == 45&&r.head? == some 45)=true
   ·rw[if_pos hc] at h
    have hc2:(c == 45&&(r.take n).head? == some 45)=true:=by
     match r,n,h,hc with
     |[],_,_,hc=>simp at hc
     |d::r',0,h,_=>omega
     |d::r',n'+1,_,hc=>exact hc
    rw[if_pos hc,if_pos hc2,d8V r _ n (by omega)]
   ·rw[if_neg hc]
    have hc2:¬(c == 45&&(r.take n).head? == some 45)=true:=by
     match r,n,hc with
     |[],_,hc=>simp
     |d::r',0,_=>simp
     |d::r',n'+1,hc=>exact hc
    rw[if_neg hc2]
theorem d8W:∀ (n:Nat) (s:List UInt8) (pos p e:Nat),s.length=n→d0X pos s=.err p e→∃ k l,p=pos+k∧k≤s.length∧d0X pos (s.take k)=.toks l:=by
 intro n
 induction n using Nat.strongRecOn with
 |_ n ih =>
  intro s pos p e hs h
  rcases d1G s with h1|⟨h1,⟨e',hn⟩|⟨k,m,v,hn⟩⟩
  ·rw[d1D h1] at h;cases h
  ·rw[d1E h1 hn] at h
   injection h with h2 h3
   have hg:gap (s.take (gap s))=(s.take (gap s)).length:=by
    rw[g7Q]
    have:=d0Z s false
    show d0Q false _=_
    rw[this]
    show gap s=_
    omega
   exact⟨gap s,_,h2.symm,by omega,d1D hg⟩
  ·rw[d1F h1 hn] at h
   have hp:=d1C hn
   have hl:(s.drop (gap s+m)).length < n:=by simp only[g7M] at hp ⊢;omega
   cases hq:d0X (pos+gap s+m) (s.drop (gap s+m)) with
   |toks q=>rw[hq] at h;cases h
   |err p' e'' =>
    rw[hq] at h
    injection h with h2 h3
    obtain⟨k',l',e1,e2,e3⟩:=ih _ hl _ _ _ _ rfl hq
    simp only[g7M] at hp e2
    refine⟨gap s+m+k',⟨k,(s.drop (gap s)).take m,v,pos+gap s⟩::l',by omega,by omega,?_⟩
    have hlen:(s.take (gap s+m+k')).length=gap s+m+k':=by rw[g7Q];omega
    have hg:gap (s.take (gap s+m+k'))=gap s:=d8V s false _ (by show gap s < _;omega)
    have hd:(s.take (gap s+m+k')).drop (gap s)=(s.drop (gap s)).take (m+k'):=by
     rw[List.drop_take];congr 1;omega
    have hnx:next ((s.take (gap s+m+k')).drop (gap (s.take (gap s+m+k'))))=.ok k m v:=by
     rw[hg,hd];exact d8U hn (by omega)
    rw[d1F (by rw[hg,hlen];omega) hnx,hg,hd]
    have hd2:(s.take (gap s+m+k')).drop (gap s+m)=(s.drop (gap s+m)).take k':=by
     rw[List.drop_take];congr 1;omega
    rw[hd2,e3,List.take_take]
    have:min m (m+k')=m:=by omega
    rw[this];rfl
def d8X (s:List UInt8):List Tok×Int×Int :=
 if 16384 < s.length then ([⟨0,[],0,0⟩],3,0) else match d0X 0 s with
 |.toks l=>(l,0,0)
 |.err p e=>match d0X 0 (s.take p) with
  |.toks l=>(l,(e:Int),(p:Int))
  |.err _ _=>([],99,0)
theorem d8Y (s:List UInt8):WfT (d8X s).1∧(d8X s).1.length≤s.length+1:=by
 unfold d8X
 split
 ·exact⟨⟨by simp,fun t ht=>by simp at ht;subst ht;rfl,fun t ht=>by simp at ht,fun t ht hk=>by simp at ht;subst ht;simp⟩,by simp⟩
 ·cases h:d0X 0 s with
  |toks l =>
   simp only
   exact⟨d8R _ _ _ _ rfl h,d8S _ _ _ _ rfl h⟩
  |err p e =>
   obtain⟨k,l,h1,h2,h3⟩:=d8W _ _ _ _ _ rfl h
   rw[g8Z] at h1
   subst h1
   simp only[h3]
   have:=d8S _ _ _ _ rfl h3
   rw[g7Q] at this
   exact⟨d8R _ _ _ _ rfl h3,by omega⟩
def zPg:Pg:=⟨true,[],true,[],true,[]⟩
def fuel (l:List Tok):Nat:=12 * l.length+20
theorem d8Z {s:List UInt8} (hs:s.length≤16384) {l:List Tok} (h:d0X 0 s=.toks l):d8X s=(l,0,0):=by
 unfold d8X
 rw[if_neg (by omega),h]
end Go.Ky

/- KX 35: what the parser reads is well formed. -/
namespace Go.Ky
open Go.Pi Go.Lx
structure Wv (s:Ps):Prop where
 wf:WfT s.ts
 val:∀ t,t∈s.ts→t.val≤18446744073709551615
 ln:s.ts.length≤100000
theorem Wv.of {s s':Ps} (h:Wv s) (hs:Suf s s'):Wv s':=by
 obtain⟨k,hk,e⟩:=id hs
 exact⟨hs.wf h.wf,fun t ht=>h.val t (by rw[e] at ht;exact g8C ht),g8T hs.le h.ln⟩
theorem Wv.hd {s:Ps} (h:Wv s):s.hd.val≤18446744073709551615:=by
 unfold Ps.hd
 match hts:s.ts,h.wf.ne with
 |a::r,_=>exact h.val a (by rw[hts];simp)
theorem Wv.nm {s:Ps} (h:Wv s) (k1:s.hd.kind=1):s.hd.text.length≤24:=by
 unfold Ps.hd at k1 ⊢
 match hts:s.ts,h.wf.ne with
 |a::r,_ =>
  rw[hts] at k1
  exact h.wf.nam a (by rw[hts];simp) k1
theorem d9A {n:Int} (h:0≤n) (h':n≤1000):I64 n:=⟨by omega,by omega⟩
theorem d9B:U64 0:=⟨by omega,by omega⟩
theorem d9C:ExpOk zEx:=.mk _ (d9A (by decide) (by decide)) d9B (by decide) (by decide) (fun _=>rfl) (by intro a ha;cases ha)
theorem d9D {α} {l:List α}:l.isEmpty=true→l=[]:=fun h=>List.isEmpty_iff.1 h
theorem d9E {o:Int} {l:List Exp} (ho:0≤o) (ho':o≤1000) (hl:l.length≤100000000) (h:∀ a,a∈l→ExpOk a):ExpOk (nod o l) :=
 .mk _ (d9A ho ho') d9B (by show 0≤_;omega) (by show l.length≤_;unfold B47;omega) d9D h
theorem ok_one {a:Exp} (h:ExpOk a):∀ x,x∈[a]→ExpOk x:=by intro x hx;simp at hx;rw[hx];exact h
theorem d9F {a b:Exp} (h:ExpOk a) (h2:ExpOk b):∀ x,x∈[a,b]→ExpOk x:=by
 intro x hx;simp at hx;rcases hx with rfl|rfl <;> assumption
theorem d9G {a b c:Exp} (h:ExpOk a) (h2:ExpOk b) (h3:ExpOk c):∀ x,x∈[a,b,c]→ExpOk x:=by
 intro x hx;simp at hx;rcases hx with rfl|rfl|rfl <;> assumption
theorem d9H {lv:Nat} {s:Ps} {o:Int} (h:opL lv s=some o):0≤o∧o≤1000:=by
 unfold opL at h
 have go:∀ (l:List (Nm×Int)),(∀ p,p∈l→0≤p.2∧p.2≤1000)→d5V s l=some o→0≤o∧o≤1000:=by
  intro l
  induction l with
  |nil=>intro _ h;cases h
  |cons p r ih =>
   obtain⟨t,q⟩:=p
   intro hp h
   rw[d5V] at h
   split at h
   ·cases h;exact hp (t,o) (by simp)
   ·exact ih (fun p hp'=>hp p (by simp [hp'])) h
 refine go _ ?_ h
 match lv with
 |0=>decide
 |1=>decide
 |2=>decide
 |3=>decide
 |4=>decide
 |n+5=>intro p hp;cases hp
structure OkAll (n:Nat):Prop where
 ex:∀ s,Wv s→ExpOk (d5W n s).1
 bi:∀ lv s,Wv s→ExpOk (d5X n lv s).1
 bl:∀ lv e s,ExpOk e→Wv s→ExpOk (d5Y n lv e s).1
 un:∀ s,Wv s→ExpOk (unM n s).1
 il:∀ e s,ExpOk e→Wv s→ExpOk (d5Z n e s).1
 pr:∀ s,Wv s→ExpOk (d6A n s).1
 ar:∀ s,Wv s→∀ a,a∈(d6B n s).1→ExpOk a
 ha:∀ s,Wv s→ExpOk (d6C n s).1
 li:∀ s,Wv s→∀ a,a∈(d6D n s).1→ExpOk a
 ll:∀ l s,(∀ a,a∈l→ExpOk a)→Wv s→∀ a,a∈(d6E n l s).1→ExpOk a
theorem d9I:OkAll 0:=by
 constructor
 ·intro s h;rw[d5W];exact d9C
 ·intro lv s h;rw[d5X];exact d9C
 ·intro lv e s he h;rw[d5Y];exact he
 ·intro s h;rw[unM];exact d9C
 ·intro e s he h;rw[d5Z];exact he
 ·intro s h;rw[d6A];exact d9C
 ·intro s h a ha;rw[d6B] at ha;cases ha
 ·intro s h;rw[d6C];exact d9C
 ·intro s h a ha;rw[d6D] at ha;cases ha
 ·intro l s hl h a ha;rw[d6E] at ha;exact hl a ha
theorem d9J {n:Nat} {s:Ps} (h:Wv s):(d6D n s).1.length≤10000000:=by
 have h1:=((d7P n).li s h.wf).sz
 have h2:=d3P (d6D n s).1
 have:=h.ln
 omega
theorem d9K {n:Nat} {s:Ps} (h:Wv s):(d6B n s).1.length≤10000000:=by
 have h1:=((d7P n).ar s h.wf).sz
 have h2:=d3P (d6B n s).1
 have:=h.ln
 omega
theorem d9L {n:Nat} (ih:OkAll n):OkAll (n+1):=by
 have R:=d7P n
 constructor
 ·intro s h
  rw[d5W]
  have w1:=h.of (R.bi 0 s h.wf).suf
  split
  ·have w2:=w1.of (d6V w1.wf)
   have w3:=w2.of (R.ex _ w2.wf).suf
   have w4:=w3.of (d6Y w3.wf [58])
   exact d9E (by decide) (by decide) (by simp) (d9G (ih.bi 0 s h) (ih.ex _ w2) (ih.ex _ w4))
  ·exact ih.bi 0 s h
 ·intro lv s h
  rw[d5X]
  split
  ·exact ih.un s h
  ·exact ih.bl lv _ _ (ih.bi _ s h) (h.of (R.bi (lv+1) s h.wf).suf)
 ·intro lv e s he h
  rw[d5Y]
  cases ho:opL lv s with
  |none=>exact he
  |some o =>
   have w2:=h.of (d6V h.wf)
   have w3:=w2.of (R.bi (lv+1) _ w2.wf).suf
   have hs:=d9H ho
   have hN:=d9E (l:=[e,(d5X n (lv+1) (d5P s)).1]) hs.1 hs.2 (by simp) (d9F he (ih.bi (lv+1) _ w2))
   simp only
   split
   ·exact hN
   ·exact ih.bl lv _ _ hN w3
 ·intro s h
  rw[unM]
  split
  ·exact d9E (by decide) (by decide) (by simp) (ok_one (ih.un _ (h.of (d6V h.wf))))
  ·split
   ·exact d9E (by decide) (by decide) (by simp) (ok_one (ih.un _ (h.of (d6V h.wf))))
   ·exact ih.il _ _ (ih.pr s h) (h.of (R.pr s h.wf).suf)
 ·intro e s he h
  rw[d5Z]
  split
  ·have w2:=h.of (d6V h.wf)
   have w3:=w2.of (R.ex _ w2.wf).suf
   exact ih.il _ _ (d9E (by decide) (by decide) (by simp) (d9F he (ih.ex _ w2))) (w3.of (d6Y w3.wf [93]))
  ·exact he
 ·intro s h
  rw[d6A]
  by_cases k3:s.hd.kind=3
  ·rw[if_pos k3]
   have hv:=h.hd
   exact .mk _ (d9A (by show(0:Int)≤1;omega) (by show(1:Int)≤_;omega)) ⟨by show 0≤(s.hd.val:Int);omega,by show(s.hd.val:Int)≤_;omega⟩ (by show 0≤_;omega) (by show 0≤_;omega) (fun _=>rfl) (by intro a ha;cases ha)
  rw[if_neg k3]
  by_cases k1:s.hd.kind=1
  ·rw[if_pos k1]
   have w2:=h.of (d6V h.wf)
   have w3:=w2.of (d6V w2.wf)
   have hn:=h.nm k1
   split
   ·have hl:=d9K (n:=n) w3
    exact .mk _ (d9A (by show(0:Int)≤5;omega) (by show(5:Int)≤_;omega)) d9B (by show s.hd.text.length≤_;unfold B47;omega) (by show(d6B n (d5P (d5P s))).1.length≤_;unfold B47;omega) d9D (ih.ar _ w3)
   ·exact .mk _ (d9A (by show(0:Int)≤2;omega) (by show(2:Int)≤_;omega)) d9B (by show s.hd.text.length≤_;unfold B47;omega) (by show 0≤_;omega) (fun _=>rfl) (by intro a ha;cases ha)
  rw[if_neg k1]
  have w2:=h.of (d6V h.wf)
  split
  ·exact d9E (by decide) (by decide) (by simp) (by intro a ha;cases ha)
  split
  ·exact d9E (by decide) (by decide) (by simp) (by intro a ha;cases ha)
  split
  ·exact ih.ha _ w2
  split
  ·exact d9E (by decide) (by decide) (by have:=d9J (n:=n) w2;omega) (ih.li _ w2)
  split
  ·exact ih.ex _ w2
  ·exact d9C
 ·intro s h
  rw[d6B]
  split
  ·intro a ha;cases ha
  ·exact ih.li s h
 ·intro s h
  rw[d6C]
  have w1:=h.of (d6Y h.wf [40])
  split
  ·exact d9C
  ·have w2:=w1.of (d6V w1.wf)
   have w3:=w2.of (d6Y w2.wf [59])
   have hv:=w1.hd
   have hl:=d9J (n:=n) w3
   exact .mk _ (d9A (by show(0:Int)≤6;omega) (by show(6:Int)≤_;omega)) ⟨by show 0≤((d5R [40] s).hd.val:Int);omega,by show((d5R [40] s).hd.val:Int)≤_;omega⟩ (by show 0≤_;omega) (by show(d6D n _).1.length≤_;unfold B47;omega) d9D (ih.li _ w3)
 ·intro s h
  rw[d6D]
  exact ih.ll _ _ (ok_one (ih.ex s h)) (h.of (R.ex s h.wf).suf)
 ·intro l s hl h
  rw[d6E]
  split
  ·have w2:=h.of (d6V h.wf)
   refine ih.ll _ _ ?_ (w2.of (R.ex _ w2.wf).suf)
   intro a ha
   rcases g7V.1 ha with h1|h1
   ·exact hl a h1
   ·exact ok_one (ih.ex _ w2) a h1
  ·exact hl
theorem d9M:∀ n,OkAll n
 |0=>d9I
 |n+1=>d9L (d9M n)
end Go.Ky

/- KX 36: statements: sizes, well-formedness. -/
namespace Go.Ky
open Go.Pi Go.Lx
theorem d9N {s:Ps} (h:WfT s.ts):(d5S s).1.length≤24:=by
 unfold d5S
 by_cases k1:s.hd.kind=1
 ·rw[if_neg (fun h=>h k1)]
  show s.hd.text.length≤24
  unfold Ps.hd at k1 ⊢
  match hts:s.ts,h.ne with
  |a::r,_ =>
   rw[hts] at k1
   exact h.nam a (by rw[hts];simp) k1
 ·rw[if_pos k1];exact g9A _
theorem d9O (k:Int) (nm:Nm) (b:Bool) (t:Ty) (e:Exp) (lo hi:Int) (nl:Bool) (l:List St):szS (.mk k nm b t e lo hi nl l)=9+nm.length+szE e+d3I l:=by
 rw[d3L,d3J]
 simp only[St.name,St.ex,St.body]
 omega
theorem d9P {n:Nat} {s:Ps} (h:WfT s.ts):Rd s (szS (d6I n s).1) 37 (d6I n s).2:=by
 unfold d6I
 simp only
 have h1:=d6Z h
 have w1:=h1.wf h
 have hT:Suf (d5S s).2 (if atM [58] (d5S s).2=true then tyM (d5P (d5S s).2) else (zTy,(d5S s).2)).2:=by
  split
  ·have h2:=d6V w1
   exact h2.trans (d7E (h2.wf w1))
  ·exact .refl w1
 have w2:=hT.wf w1
 have h3:=d6Y w2 [61]
 have w3:=h3.wf w2
 have h4:=(d7P n).ex _ w3
 have w4:=h4.suf.wf w3
 have h5:=d6Y w4 [59]
 refine⟨(((h1.trans hT).trans h3).trans h4.suf).trans h5,?_⟩
 have a1:=((h1.trans hT).trans h3).le
 have a4:=h4.sz
 have a5:=h5.le
 have an:=d9N h
 rw[d9O]
 show 9+_+_+0+_≤_
 omega
theorem d9Q {n:Nat} {s:Ps} (h:WfT s.ts):Rd s (szS (d6J n s).1) 13 (d6J n s).2:=by
 unfold d6J
 simp only
 have h4:=(d7P n).ex s h
 have w4:=h4.suf.wf h
 have h5:=d6Y w4 [59]
 refine⟨h4.suf.trans h5,?_⟩
 have a4:=h4.sz
 have a5:=h5.le
 rw[d9O]
 show 9+0+_+0+_≤_
 omega
theorem d9R (a b:List St):d3I (a++b)=d3I a+d3I b:=by
 induction a with
 |nil=>rw[g8F];show _=0+_;omega
 |cons x r ih=>rw[g6L,d3M,d3M,ih];omega
theorem d9S (a:St):d3I [a]=szS a:=by rw[d3M];show _+0=_;omega
theorem d9T {s:Ps} (h:atS s=true):s.hd.kind≠0:=by
 unfold atS at h
 simp only[g5Z] at h
 rcases h with h|h|h <;> exact d6W h
structure RdS (n:Nat):Prop where
 st:∀ s,WfT s.ts→s.hd.kind≠0→Suf s (d6K n s).2∧(1≤n→szS (d6K n s).1+64 * (d6K n s).2.ts.length≤64 * s.ts.length)
 bd:∀ o l s,WfT s.ts→Rd s (d3I (d6L n o l s).1) (d3I l+13) (d6L n o l s).2
theorem d9U:RdS 0:=by
 constructor
 ·intro s h hk;rw[d6K];exact⟨.refl h,fun h=>absurd h (by omega)⟩
 ·intro o l s h;rw[d6L];exact⟨.refl h,by simp only;omega⟩
theorem d9V {n:Nat} (ih:RdS n):RdS (n+1):=by
 constructor
 ·intro s h hk
  rw[d6K]
  have h2:=d6V h
  have w2:=h2.wf h
  have l2:=d6X h hk
  have hz:szS (.mk 0 [] false zTy zEx 0 0 true [])=13:=by rw[d9O,d7L];rfl
  split
  ·have h3:=d9P (n:=n) w2
   have a3:=h3.sz
   exact⟨h2.trans h3.suf,fun _=>by omega⟩
  split
  ·have h3:=d9Q (n:=n) w2
   have a3:=h3.sz
   exact⟨h2.trans h3.suf,fun _=>by omega⟩
  split
  ·simp only
   have h3:=d6Z w2
   have w3:=h3.wf w2
   have h4:=d6Y w3 [105,110]
   have w4:=h4.wf w3
   have h5:=d7A w4 0 1000000
   have w5:=h5.wf w4
   have h6:=d6Y w5 [46,46]
   have w6:=h6.wf w5
   have h7:=d7A w6 0 1000000
   have w7:=h7.wf w6
   have h8:=d6Y w7 [123]
   have w8:=h8.wf w7
   have h9:=ih.bd false [] _ w8
   have w9:=h9.suf.wf w8
   have h10:=d6Y w9 [125]
   have hh:=((((h3.trans h4).trans h5).trans h6).trans h7).trans h8
   refine⟨((h2.trans hh).trans h9.suf).trans h10,fun _=>?_⟩
   have a1:=hh.le
   have a9:=h9.sz
   have a10:=h10.le
   have an:=d9N w2
   have z0:d3I []=0:=rfl
   rw[d9O,d7L]
   omega
  ·refine⟨h2,fun _=>?_⟩
   show szS (.mk 0 [] false zTy zEx 0 0 true [])+_≤_
   rw[hz]
   simp only
   omega
 ·intro o l s h
  rw[d6L]
  split
  ·rename_i ha
   have h2:=ih.st s h (d9T ha)
   have w2:=h2.1.wf h
   have h3:Suf (d6K n s).2 (if o=true then d5U s.hd.pos (d6H (d6K n s).1) (d6K n s).2 else (d6K n s).2):=by
    split
    ·exact d7C w2 _ _
    ·exact .refl w2
   have w3:=h3.wf w2
   have h4:=ih.bd o (l++[(d6K n s).1]) _ w3
   refine⟨(h2.1.trans h3).trans h4.suf,?_⟩
   have a3:=h3.le
   have a4:=h4.sz
   rw[d9R,d9S] at a4
   rcases g8O n with rfl|hn
   ·rw[d6L] at a4 ⊢
    have e0:(d6K 0 s).1=.mk 0 [] false zTy zEx 0 0 true []:=by rw[d6K]
    have hz:szS (d6K 0 s).1=13:=by rw[e0,d9O,d7L];rfl
    have l2:=h2.1.le
    simp only[d9R,d9S] at a4 ⊢
    omega
   ·have a2:=h2.2 hn
    omega
  ·exact⟨.refl h,by simp only;omega⟩
theorem d9W:∀ n,RdS n
 |0=>d9U
 |n+1=>d9V (d9W n)
end Go.Ky

/- KX 37: statements that are read are well formed. -/
namespace Go.Ky
open Go.Pi Go.Lx
theorem d9X (lo:Nat) {hi:Nat} (hh:hi≤1000000) (s:Ps):I64 (d5T lo hi s).1:=by
 unfold d5T
 split
 ·exact d9A (by show(0:Int)≤0;omega) (by show(0:Int)≤_;omega)
 ·split
  ·exact d9A (by show(0:Int)≤0;omega) (by show(0:Int)≤_;omega)
  ·rename_i h
   show I64 (IntKind.wrap .i64 (s.hd.val:Int))
   rw[IntWalk.i64_in _ (by omega)]
   exact⟨by omega,by omega⟩
theorem d9Y:d2U zTy:=⟨d9A (by decide) (by decide),d9A (by decide) (by decide),d9A (by decide) (by decide)⟩
theorem d9Z (s:Ps):d2U (d6F s).1:=by
 have z:∀ k:Int,0≤k→k≤1000→I64 k:=fun k=>d9A
 unfold d6F
 split
 ·exact⟨z 1 (by decide) (by decide),z 0 (by decide) (by decide),z 0 (by decide) (by decide)⟩
 split
 ·exact⟨z 2 (by decide) (by decide),z 0 (by decide) (by decide),z 0 (by decide) (by decide)⟩
 split
 ·exact⟨z 3 (by decide) (by decide),d9X 1 (by decide) _,z 0 (by decide) (by decide)⟩
 ·exact⟨z 0 (by decide) (by decide),z 0 (by decide) (by decide),z 0 (by decide) (by decide)⟩
theorem e0A (s:Ps):d2U (tyM s).1:=by
 have h:=d9Z s
 unfold tyM
 split
 ·exact⟨h.1,h.2.1,d9X 1 (by decide) _⟩
 ·exact h
theorem e0B {k lo hi:Int} {nm:Nm} {b:Bool} {t:Ty} {e:Exp} {nl:Bool} {l:List St} (hk:0≤k) (hk':k≤1000) (hn:nm.length≤24) (ht:d2U t) (he:ExpOk e) (h5:I64 lo) (h6:I64 hi) (hl:l.length≤100000000) (hnl:nl=true→l=[]) (h:∀ a,a∈l→StOk a):StOk (.mk k nm b t e lo hi nl l) :=
 .mk _ (d9A hk hk') (by show nm.length≤_;unfold B47;omega) ht he h5 h6 (by show l.length≤_;unfold B47;omega) hnl h
theorem e0C:I64 0:=d9A (by decide) (by decide)
theorem e0D:StOk (.mk 0 [] false zTy zEx 0 0 true []):=e0B (by decide) (by decide) (by decide) d9Y d9C e0C e0C (by decide) (fun _=>rfl) (by intro a ha;cases ha)
theorem e0E {n:Nat} {s:Ps} (h:Wv s):StOk (d6I n s).1:=by
 unfold d6I
 simp only
 have w1:=h.of (d6Z h.wf)
 have hT:Suf (d5S s).2 (if atM [58] (d5S s).2=true then tyM (d5P (d5S s).2) else (zTy,(d5S s).2)).2:=by
  split
  ·have h2:=d6V w1.wf
   exact h2.trans (d7E (h2.wf w1.wf))
  ·exact .refl w1.wf
 have w2:=w1.of hT
 have w3:=w2.of (d6Y w2.wf [61])
 refine e0B (by decide) (by decide) (d9N h.wf) ?_ ((d9M n).ex _ w3) e0C e0C (by decide) (fun _=>rfl) (by intro a ha;cases ha)
 split
 ·exact e0A _
 ·exact d9Y
theorem e0F {n:Nat} {s:Ps} (h:Wv s):StOk (d6J n s).1 :=
 e0B (by decide) (by decide) (by decide) d9Y ((d9M n).ex _ h) e0C e0C (by decide) (fun _=>rfl) (by intro a ha;cases ha)
structure OkS (n:Nat):Prop where
 st:∀ s,Wv s→s.hd.kind≠0→StOk (d6K n s).1
 bd:∀ o l s,(∀ a,a∈l→StOk a)→Wv s→∀ a,a∈(d6L n o l s).1→StOk a
theorem e0G:OkS 0:=by
 constructor
 ·intro s h hk;rw[d6K];exact e0D
 ·intro o l s hl h;rw[d6L];exact hl
theorem e0H {n:Nat} {o:Bool} {s:Ps} (h:Wv s):(d6L n o [] s).1.length≤10000000:=by
 have h1:=((d9W n).bd o [] s h.wf).sz
 have h2:=d3Q (d6L n o [] s).1
 have:=h.ln
 have z0:d3I []=0:=rfl
 omega
theorem e0I {n:Nat} (ih:OkS n):OkS (n+1):=by
 constructor
 ·intro s h hk
  rw[d6K]
  have w2:=h.of (d6V h.wf)
  split
  ·exact e0E w2
  split
  ·exact e0F w2
  split
  ·simp only
   have w3:=w2.of (d6Z w2.wf)
   have w4:=w3.of (d6Y w3.wf [105,110])
   have w5:=w4.of (d7A w4.wf 0 1000000)
   have w6:=w5.of (d6Y w5.wf [46,46])
   have w7:=w6.of (d7A w6.wf 0 1000000)
   have w8:=w7.of (d6Y w7.wf [123])
   have hl:=e0H (n:=n) (o:=false) w8
   exact e0B (by decide) (by decide) (d9N w2.wf) d9Y d9C (d9X 0 (by decide) _) (d9X 0 (by decide) _) (by omega) d9D (ih.bd false [] _ (by intro a ha;cases ha) w8)
  ·exact e0D
 ·intro o l s hl h
  rw[d6L]
  split
  ·rename_i ha
   have hk:=d9T ha
   have w2:=h.of ((d9W n).st s h.wf hk).1
   have h3:Suf (d6K n s).2 (if o=true then d5U s.hd.pos (d6H (d6K n s).1) (d6K n s).2 else (d6K n s).2):=by
    split
    ·exact d7C w2.wf _ _
    ·exact .refl w2.wf
   refine ih.bd o _ _ ?_ (w2.of h3)
   intro a hm
   rcases g7V.1 hm with h1|h1
   ·exact hl a h1
   ·rw[g8E] at h1
    rw[h1];exact ih.st s h hk
  ·exact hl
theorem e0J:∀ n,OkS n
 |0=>e0G
 |n+1=>e0I (e0J n)
end Go.Ky

/- KX 38: functions, declarations, programs: tokens left; tokens' values. -/
namespace Go.Ky
open Go.Pi Go.Lx
theorem e0K:∀ (n:Nat) (l:List Pa) (s:Ps),WfT s.ts→Suf s (d6M n l s).2
 |0,l,s,h=>by rw[d6M];exact .refl h
 |n+1,l,s,h=>by
  rw[d6M]
  split
  ·have h2:=d6V h
   have h3:=d7F (h2.wf h)
   exact(h2.trans h3).trans (e0K n _ _ ((h2.trans h3).wf h))
  ·exact .refl h
theorem e0L (n:Nat) {s:Ps} (h:WfT s.ts):Suf s (d6N n s).2:=by
 unfold d6N
 split
 ·exact .refl h
 ·have h3:=d7F h
  exact h3.trans (e0K n _ _ (h3.wf h))
theorem e0M {n:Nat} {s:Ps} (h:WfT s.ts):Suf (d5R [102,110] s) (fnM n s).2:=by
 unfold fnM
 simp only
 have w0:=(d6Y h [102,110]).wf h
 have h1:=d6Z w0
 have w1:=h1.wf w0
 have h2:=d6Y w1 [40]
 have w2:=h2.wf w1
 have h3:=e0L n w2
 have w3:=h3.wf w2
 have h4:=d6Y w3 [41]
 have w4:=h4.wf w3
 have h5:=d6Y w4 [58]
 have w5:=h5.wf w4
 have h6:=d7E w5
 have w6:=h6.wf w5
 have h7:=d6Y w6 [123]
 have w7:=h7.wf w6
 have h8:=((d9W n).bd true [] _ w7).suf
 have w8:=h8.wf w7
 have h9:=d6Y w8 [114,101,116,117,114,110]
 have w9:=h9.wf w8
 have h10:=((d7P n).ex _ w9).suf
 have w10:=h10.wf w9
 have h11:=fun p b=>d7C w10 p b
 have h12:=fun p b=>d6Y ((h11 p b).wf w10) [59]
 have h13:=fun p b=>d6Y ((h12 p b).wf ((h11 p b).wf w10)) [125]
 exact((((((((((h1.trans h2).trans h3).trans h4).trans h5).trans h6).trans h7).trans h8).trans h9).trans h10).trans (h11 _ _)).trans ((h12 _ _).trans (h13 _ _))
theorem e0N {n:Nat} {s:Ps} (h:WfT s.ts) (ha:atM [102,110] s=true):(fnM n s).2.ts.length+1≤s.ts.length:=by
 have h1:=(e0M (n:=n) h).le
 have e:d5R [102,110] s=d5P s:=by unfold d5R;rw[if_pos ha]
 have h2:=d6X h (d6W ha)
 rw[e] at h1
 omega
theorem e0O {n:Nat} {s:Ps} (h:WfT s.ts):Suf s (fnM n s).2:=(d6Y h [102,110]).trans (e0M h)
theorem e0P {s:Ps} (h:WfT s.ts):Suf (d5P s) (d6O s).2:=by
 unfold d6O
 simp only
 have w0:=(d6V h).wf h
 have h1:=d6Z w0
 have w1:=h1.wf w0
 have h2:=d6Y w1 [58]
 have w2:=h2.wf w1
 have h3:=d7E w2
 have w3:=h3.wf w2
 exact((h1.trans h2).trans h3).trans (d6Y w3 [59])
theorem e0Q {s:Ps} (h:WfT s.ts) (ha:s.hd.kind≠0):(d6O s).2.ts.length+1≤s.ts.length:=by
 have h1:=(e0P h).le
 have h2:=d6X h ha
 omega
theorem e0R {s:Ps} (h:WfT s.ts):Suf s (d6O s).2:=(d6V h).trans (e0P h)
theorem e0S {s:List UInt8} {k m v:Nat} (h:next s=.ok k m v):v≤18446744073709551615:=by
 match s with
 |[]=>cases h
 |c::r =>
  rw[next] at h
  unfold d0V d0W at h
  repeat' split at h
  all_goals first|(injection h with h1 h2 h3;omega)|cases h
theorem e0T:∀ (n:Nat) (s:List UInt8) (pos:Nat) (l:List Tok),s.length=n→d0X pos s=.toks l→∀ t,t∈l→t.val≤18446744073709551615:=by
 intro n
 induction n using Nat.strongRecOn with
 |_ n ih =>
  intro s pos l hs h t ht
  rcases d1G s with h1|⟨h1,⟨e,hn⟩|⟨k,m,v,hn⟩⟩
  ·rw[d1D h1] at h
   injection h with h
   subst h
   rw[g8E] at ht
   subst ht
   exact g9A _
  ·rw[d1E h1 hn] at h;cases h
  ·rw[d1F h1 hn] at h
   have hp:=d1C hn
   cases hq:d0X (pos+gap s+m) (s.drop (gap s+m)) with
   |err p e=>rw[hq] at h;cases h
   |toks q =>
    rw[hq] at h
    injection h with h
    subst h
    rcases g7W.1 ht with e|e
    ·subst e;exact e0S hn
    ·exact ih (s.drop (gap s+m)).length (by simp only[g7M] at hp ⊢;omega) _ _ q rfl hq t e
theorem e0U (s:List UInt8):Wv (st0 (d8X s).1)∧(d8X s).1.length≤16400:=by
 have hw:=d8Y s
 have hl:(d8X s).1.length≤16400:=by
  by_cases hb:16384 < s.length
  ·unfold d8X;rw[if_pos hb];show 1≤_;omega
  ·have:=hw.2;omega
 refine⟨⟨hw.1,?_,by show(d8X s).1.length≤_;omega⟩,hl⟩
 show ∀ t,t∈(d8X s).1→_
 unfold d8X
 split
 ·intro t ht;simp only[g8E] at ht;subst ht;exact g9A _
 ·cases h:d0X 0 s with
  |toks l=>exact e0T _ _ _ _ rfl h
  |err p e =>
   simp only
   cases h3:d0X 0 (s.take p) with
   |toks l=>exact e0T _ _ _ _ rfl h3
   |err _ _=>intro t ht;cases ht
def prN (n:Nat) (s:List UInt8):Pg×Int×Int :=
 if (d6S (d8X s).2.1 (d8X s).2.2 (d6T n (st0 (d8X s).1)).2).2≠0
 then (zPg,d6S (d8X s).2.1 (d8X s).2.2 (d6T n (st0 (d8X s).1)).2)
 else ((d6T n (st0 (d8X s).1)).1,0,0)
def exF (n:Nat) (l:List Tok):Ps:=d5U (st0 l).hd.pos (decide ((dEx (d5W n (st0 l)).1:Int) > 40)) (d6R (d5W n (st0 l)).2)
def exN (n:Nat) (s:List UInt8):Exp×Int×Int :=
 if (d6S (d8X s).2.1 (d8X s).2.2 (exF n (d8X s).1)).2≠0 then (zEx,d6S (d8X s).2.1 (d8X s).2.2 (exF n (d8X s).1))
 else ((d5W n (st0 (d8X s).1)).1,0,0)
end Go.Ky

/- KX 45: the length of the tokens' texts. -/
namespace Go.Ky
open Go.Pi Go.Lx
end Go.Ky

/- KX 39: places of errors: the parser's steps as computations that keep what is known. No program in sight. -/
namespace Go.Ky
open Go.Pi Go.Lx
structure Inv (A:List Tok) (s:Ps):Prop where
 ne:s.ts≠[]
 mem:∀ t,t∈s.ts→t∈A
 er:s.err=0∨((s.err=2∨s.err=3)∧∃ t,t∈A∧s.pos=(t.pos:Int)∧(s.err=3→t.kind≠0))
 dp:s.deep=true→s.err=0→∃ t,t∈A∧s.dat=(t.pos:Int)∧t.kind≠0
structure Af (n:Nat) (s:Ps):Prop where
 ts:s.ts=[⟨0,[],0,n⟩]
 er:s.err=0∨(s.err=2∧s.pos=(n:Int))
structure Syn (n:Nat) (rest:List Tok) (r:List Tok) (a b:Ps):Prop where
 ne:r≠[]
 ps:∀ t,t∈r→t.pos≠n
 ta:a.ts=r++rest
 tb:b.ts=r++[⟨0,[],0,n⟩]
 ea:a.err=0
 eb:b.err=0
def Bad (n:Nat) (a:Ps):Prop:=a.err≠0∧a.pos≠(n:Int)
abbrev Pm (α:Type):=Ps→α×Ps
def Rv {α:Type} (n:Nat) (rest:List Tok) (x y:α×Ps):Prop:=(x.1=y.1∧∃ r,Syn n rest r x.2 y.2)∨Af n y.2∨Bad n x.2
structure Gd {α:Type} (p:Ps→Prop) (m:Pm α):Prop where
 inv:∀ A s,Inv A s→p s→Inv A (m s).2
 err:∀ s,p s→s.err≠0→(m s).2.err=s.err∧(m s).2.pos=s.pos
 af:∀ n s,Af n s→p s→Af n (m s).2
 sy:∀ n rest r a b,rest≠[]→Syn n rest r a b→p a→p b→Rv n rest (m a) (m b)
def tt (_:Ps):Prop:=True
def ret {α:Type} (v:α):Pm α:=fun s=>(v,s)
theorem e0V {α:Type} {p q:Ps→Prop} {m:Pm α} (h:Gd p m) (hq:∀ s,q s→p s):Gd q m :=
 ⟨fun A s i j=>h.inv A s i (hq s j),fun s j=>h.err s (hq s j),fun n s i j=>h.af n s i (hq s j),fun n rest r a b hr i j k=>h.sy n rest r a b hr i (hq a j) (hq b k)⟩
theorem e0W {s:Ps} (h:s.ts≠[]):s.hd∈s.ts:=by
 unfold Ps.hd
 match s.ts,h with
 |a::r,_=>simp
def atT (t:Nm) (x:Tok):Bool:=decide (x.kind≠0)&&decide (x.text=t)
end Go.Ky

/- KX 40: all of the parser's functions keep what is known of places. -/
namespace Go.Ky
open Go.Pi Go.Lx
theorem Gd.any {α:Type} {p:Ps→Prop} {m:Pm α} (h:Gd tt m):Gd p m:=e0V h fun _ _=>trivial
def opG (x:Tok):List (Nm×Int)→Option Int
 |[]=>none
 |(t,o)::r=>if atT t x=true then some o else opG x r
theorem e0X (s:Ps):∀ l,d5V s l=opG s.hd l
 |[]=>rfl
 |(t,o)::r=>by
  rw[d5V,opG,e0X s r];rfl
structure GdAll (n:Nat):Prop where
 ex:Gd tt (d5W n)
 bi:∀ lv,Gd tt (d5X n lv)
 bl:∀ lv e,Gd tt (d5Y n lv e)
 un:Gd tt (unM n)
 il:∀ e,Gd tt (d5Z n e)
 pr:Gd tt (d6A n)
 ar:Gd tt (d6B n)
 ha:Gd tt (d6C n)
 li:Gd tt (d6D n)
 ll:∀ l,Gd tt (d6E n l)
structure GdS (n:Nat):Prop where
 st:Gd tt (d6K n)
 bd:∀ o l,Gd tt (d6L n o l)
end Go.Ky

/- KX 42: the five sources that every statement of the parser's layer tries first, worked out. -/
namespace Go.Ky
open Go.Pi Go.Lx
def e0Y:Nat→Nat→List UInt8→Res
 |0,_,_=>.toks []
 |n+1,pos,s=>if gap s=s.length then .toks [⟨0,[],0,pos+s.length⟩] else
  match next (s.drop (gap s)) with
  |.err e=>.err (pos+gap s) e
  |.ok k m v=>(e0Y n (pos+gap s+m) (s.drop (gap s+m))).cons ⟨k,(s.drop (gap s)).take m,v,pos+gap s⟩
theorem e0Z:∀ (n pos:Nat) (s:List UInt8),s.length < n→e0Y n pos s=d0X pos s
 |0,pos,s,h=>by omega
 |n+1,pos,s,h=>by
  rw[e0Y]
  rcases d1G s with h1|⟨h1,⟨e',hn⟩|⟨k,m,v,hn⟩⟩
  ·rw[if_pos h1,d1D h1]
  ·rw[if_neg (by omega),d1E h1 hn,hn]
  ·have hp:=d1C hn
   have hdl:(s.drop (gap s)).length=s.length - gap s:=g7M
   have hdl2:(s.drop (gap s+m)).length=s.length - (gap s+m):=g7M
   rw[if_neg (by omega),d1F h1 hn,hn]
   simp only
   rw[e0Z n _ _ (by omega)]
def tokF (s:List UInt8):List Tok×Int×Int :=
 if 16384 < s.length then ([⟨0,[],0,0⟩],3,0) else match e0Y (s.length+1) 0 s with
 |.toks l=>(l,0,0)
 |.err p e=>match e0Y ((s.take p).length+1) 0 (s.take p) with
  |.toks l=>(l,(e:Int),(p:Int))
  |.err _ _=>([],99,0)
theorem e1A (s:List UInt8):d8X s=tokF s:=by
 unfold d8X tokF
 rw[e0Z _ _ _ (Nat.lt_succ_self _)]
 split
 ·rfl
 ·cases d0X 0 s with
  |toks l=>rfl
  |err p e =>
   simp only
   rw[e0Z _ _ _ (Nat.lt_succ_self _)] <;> (cases d0X 0 (s.take p) <;> rfl)
def exG (n:Nat) (t:List Tok×Int×Int):Exp×Int×Int :=
 if (d6S t.2.1 t.2.2 (exF n t.1)).2≠0 then (zEx,d6S t.2.1 t.2.2 (exF n t.1)) else ((d5W n (st0 t.1)).1,0,0)
def prG (n:Nat) (t:List Tok×Int×Int):Pg×Int×Int :=
 if (d6S t.2.1 t.2.2 (d6T n (st0 t.1)).2).2≠0 then (zPg,d6S t.2.1 t.2.2 (d6T n (st0 t.1)).2) else ((d6T n (st0 t.1)).1,0,0)
def e1B:Exp→Bool
 |.mk op _ _ _ [_,.mk op2 _ _ _ [_,.mk op3 _ _ _ _]]=>decide (op=13)&&(decide (op2=11)&&decide (op3=10))
 |_=>false
theorem e1C {e:Exp} (h:e1B e=true):∃ v nm nl x v2 n2 l2 y v3 n3 l3 r,e=.mk 13 v nm nl [x,.mk 11 v2 n2 l2 [y,.mk 10 v3 n3 l3 r]]:=by
 unfold e1B at h
 split at h
 ·simp only[g5U,g9N] at h
  obtain⟨rfl,rfl,rfl⟩:=h
  exact⟨_,_,_,_,_,_,_,_,_,_,_,_,rfl⟩
 ·cases h
abbrev e1D:List UInt8:=[97,32,45,32,98,32,42,32,110,111,116,32,99,91,105,32,43,32,49,93]
abbrev e1E:List UInt8:=[97,32,60,32,98,32,60,32,99]
abbrev e1F:List UInt8:=[97,32,43]
abbrev e1G:List UInt8:=[108,101,116,32,120,32,61,32,49]
abbrev e1H:List UInt8:=[112,117,98,108,105,99,32,120,58,32,117,105,110,116,32,54,51,59]
abbrev fu5:Nat:=200
theorem len5:12 * (d8X e1D).1.length+20≤fu5∧12 * (d8X e1E).1.length+20≤fu5∧12 * (d8X e1F).1.length+20≤fu5∧12 * (d8X e1G).1.length+20≤fu5∧12 * (d8X e1H).1.length+20≤fu5:=by
 rw[e1A,e1A,e1A,e1A,e1A]
 decide +kernel
theorem ex_1:e1B (exN fu5 e1D).1=true∧(exN fu5 e1D).2=(0,0):=by
 show e1B (exG fu5 (d8X e1D)).1=true∧(exG fu5 (d8X e1D)).2=(0,0)
 rw[e1A]
 decide +kernel
theorem ex_2:(exN fu5 e1E).2=(6,2):=by
 show(exG fu5 (d8X e1E)).2=_
 rw[e1A]
 decide +kernel
theorem ex_3:(exN fu5 e1F).2=(3,2):=by
 show(exG fu5 (d8X e1F)).2=_
 rw[e1A]
 decide +kernel
theorem pr_4:(prN fu5 e1G).2=(9,2):=by
 show(prG fu5 (d8X e1G)).2=_
 rw[e1A]
 decide +kernel
theorem pr_5:(prN fu5 e1H).2=(15,3):=by
 show(prG fu5 (d8X e1H)).2=_
 rw[e1A]
 decide +kernel
end Go.Ky

/- KX 43: how large a read program is. -/
namespace Go.Ky
open Go.Pi Go.Lx
structure FuB (f:Fu):Prop where
 bd:d3I f.body≤B20
 rt:szE f.ret≤B20
 ps:f.params.length≤20000
structure PgR (p:Pg):Prop where
 fs:∀ f,f∈p.funcs→FuB f
 fl:p.funcs.length≤20000
 dl:p.decls.length≤20000
 bd:d3I p.body≤B20
end Go.Ky
