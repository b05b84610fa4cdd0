/- KX 5: programs of the circuit language as plain data; which are valid. -/
import Derived.Test.YtdjcnfacjfnakaaGreatPi31
import Derived.Test.YtdjcnfacjfnakaaGreatLx1
import Derived.Test.YtdjcnfacjfnakaaGreatPi29
set_option linter.unusedSimpArgs false
set_option linter.unusedVariables false
namespace Go.Ky
open Go.Pi
abbrev Nm:=List UInt8
structure Ty where
 kind:Int
 bits:Int
 len:Int
deriving DecidableEq
abbrev tTy (t:Ty):List T:=[.int .i64 t.kind,.int .i64 t.bits,.int .i64 t.len]
def zTy:Ty:=⟨0,0,0⟩
def fieldT:Ty:=⟨1,0,0⟩
def d1G:Ty:=⟨2,0,0⟩
inductive Exp where
 |mk (op val:Int) (name:Nm) (nl:Bool) (args:List Exp)
instance:Inhabited Exp:=⟨.mk 0 0 [] true []⟩
def Exp.op:Exp->Int|.mk o _ _ _ _=>o
def Exp.val:Exp->Int|.mk _ v _ _ _=>v
def Exp.name:Exp->Nm|.mk _ _ n _ _=>n
def Exp.nl:Exp->Bool|.mk _ _ _ b _=>b
def Exp.args:Exp->List Exp|.mk _ _ _ _ l=>l
theorem Exp.ind {p:Exp->Prop} (h:∀ e:Exp,(∀ a,a∈e.args->p a)->p e):∀ e,p e:=by
 intro e
 refine Exp.rec (motive_1:=p) (motive_2:=λl=>∀ a,a∈l->p a) ?_ ?_ ?_ e
 ·intro o v n b l ih
  exact h (.mk o v n b l) ih
 ·intro a ha;cases ha
 ·intro x l hx hl a ha
  rcases g6H.1 ha with e|e
  ·subst e;exact hx
  ·exact hl a e
mutual
def tEx:Exp->List T
 |.mk o v n nl l=>[.int .i64 o,.int .u64 v,.str n,.sl nl (d1H l)]
def d1H:List Exp->List (List T)
 |[]=>[]
 |e::r=>tEx e::d1H r
end
theorem d1I (l:List Exp):d1H l=l.map tEx:=by
 induction l with
 |nil=>rfl
 |cons e r ih=>rw[d1H,ih];rfl
theorem d1J (e:Exp):tEx e=[.int .i64 e.op,.int .u64 e.val,.str e.name,.sl e.nl (d1H e.args)]:=by
 cases e;rfl
theorem d1K (l:List Exp):(d1H l).length=l.length:=by rw[d1I,g5Y]
theorem d1L (l:List Exp) (i:Nat):(d1H l)[i]?=l[i]?.map tEx:=by rw[d1I,g5P]
inductive St where
 |mk (kind:Int) (name:Nm) (typed:Bool) (ty:Ty) (ex:Exp) (lo hi:Int) (nl:Bool) (body:List St)
instance:Inhabited St:=⟨.mk 0 [] false zTy default 0 0 true []⟩
def St.kind:St->Int|.mk k _ _ _ _ _ _ _ _=>k
def St.name:St->Nm|.mk _ n _ _ _ _ _ _ _=>n
def St.typed:St->Bool|.mk _ _ b _ _ _ _ _ _=>b
def St.ty:St->Ty|.mk _ _ _ t _ _ _ _ _=>t
def St.ex:St->Exp|.mk _ _ _ _ e _ _ _ _=>e
def St.lo:St->Int|.mk _ _ _ _ _ l _ _ _=>l
def St.hi:St->Int|.mk _ _ _ _ _ _ h _ _=>h
def St.nl:St->Bool|.mk _ _ _ _ _ _ _ b _=>b
def St.body:St->List St|.mk _ _ _ _ _ _ _ _ l=>l
theorem St.ind {p:St->Prop} (h:∀ s:St,(∀ a,a∈s.body->p a)->p s):∀ s,p s:=by
 intro s
 refine St.rec (motive_1:=p) (motive_2:=λl=>∀ a,a∈l->p a) ?_ ?_ ?_ s
 ·intro k n b t e lo hi nl l ih
  exact h (.mk k n b t e lo hi nl l) ih
 ·intro a ha;cases ha
 ·intro x l hx hl a ha
  rcases g6H.1 ha with e|e
  ·subst e;exact hx
  ·exact hl a e
mutual
def tSt:St->List T
 |.mk k n b t e lo hi nl l=>[.int .i64 k,.str n,.bool b,.int .i64 t.kind,.int .i64 t.bits,.int .i64 t.len,.int .i64 e.op,.int .u64 e.val,.str e.name,.sl e.nl (d1H e.args),.int .i64 lo,.int .i64 hi,.sl nl (d1M l)]
def d1M:List St->List (List T)
 |[]=>[]
 |e::r=>tSt e::d1M r
end
theorem d1N (l:List St):d1M l=l.map tSt:=by
 induction l with
 |nil=>rfl
 |cons e r ih=>rw[d1M,ih];rfl
theorem d1O (s:St):tSt s=[.int .i64 s.kind,.str s.name,.bool s.typed,.int .i64 s.ty.kind,.int .i64 s.ty.bits,.int .i64 s.ty.len,.int .i64 s.ex.op,.int .u64 s.ex.val,.str s.ex.name,.sl s.ex.nl (d1H s.ex.args),.int .i64 s.lo,.int .i64 s.hi,.sl s.nl (d1M s.body)]:=by
 cases s;rfl
theorem d1P (l:List St):(d1M l).length=l.length:=by rw[d1N,g5Y]
theorem d1Q (l:List St) (i:Nat):(d1M l)[i]?=l[i]?.map tSt:=by rw[d1N,g5P]
structure Pa where
 name:Nm
 ty:Ty
abbrev tPa (p:Pa):List T:=[.str p.name,.int .i64 p.ty.kind,.int .i64 p.ty.bits,.int .i64 p.ty.len]
structure Fu where
 name:Nm
 pnl:Bool
 params:List Pa
 res:Ty
 bnl:Bool
 body:List St
 ret:Exp
abbrev tFu (f:Fu):List T:=[.str f.name,.sl f.pnl (f.params.map tPa),.int .i64 f.res.kind,.int .i64 f.res.bits,.int .i64 f.res.len,.sl f.bnl (d1M f.body),.int .i64 f.ret.op,.int .u64 f.ret.val,.str f.ret.name,.sl f.ret.nl (d1H f.ret.args)]
structure De where
 pub:Bool
 name:Nm
 ty:Ty
abbrev tDe (d:De):List T:=[.bool d.pub,.str d.name,.int .i64 d.ty.kind,.int .i64 d.ty.bits,.int .i64 d.ty.len]
structure Pg where
 fnl:Bool
 funcs:List Fu
 dnl:Bool
 decls:List De
 bnl:Bool
 body:List St
abbrev tPg (p:Pg):List T:=[.sl p.fnl (p.funcs.map tFu),.sl p.dnl (p.decls.map tDe),.sl p.bnl (d1M p.body)]
abbrev B47:Nat:=140737488355328
def I64 (n:Int):Prop:=-9223372036854775808<=n/\n<=9223372036854775807
def U64 (n:Int):Prop:=0<=n/\n<=18446744073709551615
def d1R (t:Ty):Prop:=I64 t.kind/\I64 t.bits/\I64 t.len
inductive ExpOk:Exp->Prop where
 |mk (e:Exp) (h1:I64 e.op) (h2:U64 e.val) (h3:e.name.length<=B47) (h4:e.args.length<=B47) (h5:e.nl=true->e.args=[]) (h:∀ a,a∈e.args->ExpOk a):ExpOk e
inductive StOk:St->Prop where
 |mk (s:St) (h1:I64 s.kind) (h2:s.name.length<=B47) (h3:d1R s.ty) (h4:ExpOk s.ex) (h5:I64 s.lo) (h6:I64 s.hi) (h7:s.body.length<=B47) (h8:s.nl=true->s.body=[]) (h:∀ a,a∈s.body->StOk a):StOk s
def d1S (p:Pa):Prop:=p.name.length<=B47/\d1R p.ty
structure FuOk (f:Fu):Prop where
 name:f.name.length<=B47
 pl:f.params.length<=B47
 pn:f.pnl=true->f.params=[]
 pa:∀ p,p∈f.params->d1S p
 res:d1R f.res
 bl:f.body.length<=B47
 bn:f.bnl=true->f.body=[]
 bo:∀ s,s∈f.body->StOk s
 ret:ExpOk f.ret
def d1T (d:De):Prop:=d.name.length<=B47/\d1R d.ty
structure PgOk (p:Pg):Prop where
 fl:p.funcs.length<=B47
 fn:p.fnl=true->p.funcs=[]
 fo:∀ f,f∈p.funcs->FuOk f
 dl:p.decls.length<=B47
 dn:p.dnl=true->p.decls=[]
 dok:∀ d,d∈p.decls->d1T d
 bl:p.body.length<=B47
 bn:p.bnl=true->p.body=[]
 bo:∀ s,s∈p.body->StOk s
abbrev d1U (x:Nat):List CT:=[.int .i64,.int .u64,.str,.slr x]
abbrev d1V (x s:Nat):List CT:=[.int .i64,.str,.bool,.int .i64,.int .i64,.int .i64,.int .i64,.int .u64,.str,.slr x,.int .i64,.int .i64,.slr s]
abbrev ctPa:List CT:=[.str,.int .i64,.int .i64,.int .i64]
abbrev ctFu (x s:Nat):List CT:=[.str,.sl ctPa,.int .i64,.int .i64,.int .i64,.slr s,.int .i64,.int .u64,.str,.slr x]
abbrev ctDe:List CT:=[.bool,.str,.int .i64,.int .i64,.int .i64]
abbrev d1W (x s:Nat):List CT:=[.sl (ctFu x s),.sl ctDe,.slr s]
def d1X (x s:Nat) (t:Nat):List CT:=if t=x then d1U x else if t=s then d1V x s else []
theorem d1Y {x s:Nat}:d1X x s x=d1U x:=by simp [d1X]
theorem d1Z {x s:Nat} (h:s≠x):d1X x s s=d1V x s:=by simp [d1X,h]
section
variable {env:Nat->List CT} {x s:Nat}
theorem d2A {N:Nat} (hN:N<=B47) (hx:env x=d1U x):∀ (c:CT) (y:T),Wt env N c y->c=.slr x->∃ (nl:Bool) (l:List Exp),y=.sl nl (d1H l)/\l.length<=N/\(nl=true->l=[])/\∀ a,a∈l->ExpOk a:=by
 intro c y h
 induction h with
 |nslr t=>intro _;exact⟨true,[],rfl,g7B _,λ_=>rfl,by simp⟩
 |slr t es hl hc h ih =>
  intro e
  injection e with e
  subst e
  rw[hx] at hc h ih
  obtain⟨l,h1,h2⟩:=d0V (enc:=tEx) (p:=ExpOk) (es:=es) λe he=>by
   have hw:Wts env N (d1U t) e:=⟨hc e he,h e he⟩
   obtain⟨y1,r1,rfl,w1,hw⟩:=d0P hw
   obtain⟨y2,r2,rfl,w2,hw⟩:=d0P hw
   obtain⟨y3,r3,rfl,w3,hw⟩:=d0P hw
   obtain⟨y4,r4,rfl,w4,hw⟩:=d0P hw
   have:=d0O hw
   subst this
   obtain⟨op,rfl,o1,o2⟩:=d0R w1
   obtain⟨v,rfl,v1,v2⟩:=d0S w2
   obtain⟨n,rfl,n1⟩:=d0T w3
   obtain⟨nl,l,rfl,l1,l2,l3⟩:=ih _ he 3 _ y4 rfl rfl rfl
   exact⟨.mk op v n nl l,rfl,.mk _ ⟨o1,o2⟩ ⟨v1,v2⟩ (g6V n1 hN) (g6V l1 hN) l2 l3⟩
  subst h1
  exact⟨false,l,by rw[d1I],by simpa using hl,by simp,h2⟩
 |_=>intro e;cases e
theorem d2B {N:Nat} {y1 y2 y3:T} (w1:Wt env N (.int .i64) y1) (w2:Wt env N (.int .i64) y2) (w3:Wt env N (.int .i64) y3):∃ t:Ty,y1=.int .i64 t.kind/\y2=.int .i64 t.bits/\y3=.int .i64 t.len/\d1R t:=by
 obtain⟨a,rfl,a1,a2⟩:=d0R w1
 obtain⟨b,rfl,b1,b2⟩:=d0R w2
 obtain⟨c,rfl,c1,c2⟩:=d0R w3
 exact⟨⟨a,b,c⟩,rfl,rfl,rfl,⟨a1,a2⟩,⟨b1,b2⟩,⟨c1,c2⟩⟩
theorem d2C {N:Nat} (hN:N<=B47) (hx:env x=d1U x) {y1 y2 y3 y4:T} (w1:Wt env N (.int .i64) y1) (w2:Wt env N (.int .u64) y2) (w3:Wt env N .str y3) (w4:Wt env N (.slr x) y4) :
  ∃ e:Exp,y1=.int .i64 e.op/\y2=.int .u64 e.val/\y3=.str e.name/\y4=.sl e.nl (d1H e.args)/\ExpOk e:=by
 obtain⟨op,rfl,o1,o2⟩:=d0R w1
 obtain⟨v,rfl,v1,v2⟩:=d0S w2
 obtain⟨n,rfl,n1⟩:=d0T w3
 obtain⟨nl,l,rfl,l1,l2,l3⟩:=d2A hN hx _ y4 w4 rfl
 exact⟨.mk op v n nl l,rfl,rfl,rfl,rfl,.mk _ ⟨o1,o2⟩ ⟨v1,v2⟩ (g6V n1 hN) (g6V l1 hN) l2 l3⟩
theorem d2D {N:Nat} (hN:N<=B47) (hx:env x=d1U x) (hs:env s=d1V x s):∀ (c:CT) (y:T),Wt env N c y->c=.slr s->∃ (nl:Bool) (l:List St),y=.sl nl (d1M l)/\l.length<=N/\(nl=true->l=[])/\∀ a,a∈l->StOk a:=by
 intro c y h
 induction h with
 |nslr t=>intro _;exact⟨true,[],rfl,g7B _,λ_=>rfl,by simp⟩
 |slr t es hl hc h ih =>
  intro e
  injection e with e
  subst e
  rw[hs] at hc h ih
  obtain⟨l,h1,h2⟩:=d0V (enc:=tSt) (p:=StOk) (es:=es) λe he=>by
   have hw:Wts env N (d1V x t) e:=⟨hc e he,h e he⟩
   obtain⟨y1,r1,rfl,w1,hw⟩:=d0P hw
   obtain⟨y2,r2,rfl,w2,hw⟩:=d0P hw
   obtain⟨y3,r3,rfl,w3,hw⟩:=d0P hw
   obtain⟨y4,r4,rfl,w4,hw⟩:=d0P hw
   obtain⟨y5,r5,rfl,w5,hw⟩:=d0P hw
   obtain⟨y6,r6,rfl,w6,hw⟩:=d0P hw
   obtain⟨y7,r7,rfl,w7,hw⟩:=d0P hw
   obtain⟨y8,r8,rfl,w8,hw⟩:=d0P hw
   obtain⟨y9,r9,rfl,w9,hw⟩:=d0P hw
   obtain⟨y10,r10,rfl,w10,hw⟩:=d0P hw
   obtain⟨y11,r11,rfl,w11,hw⟩:=d0P hw
   obtain⟨y12,r12,rfl,w12,hw⟩:=d0P hw
   obtain⟨y13,r13,rfl,w13,hw⟩:=d0P hw
   have:=d0O hw
   subst this
   obtain⟨k,rfl,k1,k2⟩:=d0R w1
   obtain⟨n,rfl,n1⟩:=d0T w2
   obtain⟨b,rfl⟩:=d0U w3
   obtain⟨ty,rfl,rfl,rfl,t1⟩:=d2B w4 w5 w6
   obtain⟨e,rfl,rfl,rfl,rfl,e1⟩:=d2C hN hx w7 w8 w9 w10
   obtain⟨lo,rfl,lo1,lo2⟩:=d0R w11
   obtain⟨hi,rfl,hi1,hi2⟩:=d0R w12
   obtain⟨nl,l,rfl,l1,l2,l3⟩:=ih _ he 12 _ y13 rfl rfl rfl
   exact⟨.mk k n b ty e lo hi nl l,rfl,.mk _ ⟨k1,k2⟩ (g6V n1 hN) t1 e1 ⟨lo1,lo2⟩ ⟨hi1,hi2⟩ (g6V l1 hN) l2 l3⟩
  subst h1
  exact⟨false,l,by rw[d1N],by simpa using hl,by simp,h2⟩
 |_=>intro e;cases e
theorem d2E {N:Nat} (hN:N<=B47) (hx:env x=d1U x) (hs:env s=d1V x s) {y1 y2 y3:T} (w1:Wt env N (.sl (ctFu x s)) y1) (w2:Wt env N (.sl ctDe) y2) (w3:Wt env N (.slr s) y3) :
  ∃ p:Pg,y1=.sl p.fnl (p.funcs.map tFu)/\y2=.sl p.dnl (p.decls.map tDe)/\y3=.sl p.bnl (d1M p.body)/\PgOk p:=by
 obtain⟨fnl,fes,rfl,f1,f2,f3⟩:=d0N w1
 obtain⟨dnl,des,rfl,d1,d2,d3⟩:=d0N w2
 obtain⟨bnl,bo,rfl,b1,b2,b3⟩:=d2D hN hx hs _ y3 w3 rfl
 obtain⟨fs,g1,g2⟩:=d0V (enc:=tFu) (p:=FuOk) (es:=fes) λe he=>by
  obtain⟨y1,r1,rfl,w1,hw⟩:=d0P (f3 e he)
  obtain⟨y2,r2,rfl,w2,hw⟩:=d0P hw
  obtain⟨y3,r3,rfl,w3,hw⟩:=d0P hw
  obtain⟨y4,r4,rfl,w4,hw⟩:=d0P hw
  obtain⟨y5,r5,rfl,w5,hw⟩:=d0P hw
  obtain⟨y6,r6,rfl,w6,hw⟩:=d0P hw
  obtain⟨y7,r7,rfl,w7,hw⟩:=d0P hw
  obtain⟨y8,r8,rfl,w8,hw⟩:=d0P hw
  obtain⟨y9,r9,rfl,w9,hw⟩:=d0P hw
  obtain⟨y10,r10,rfl,w10,hw⟩:=d0P hw
  have:=d0O hw
  subst this
  obtain⟨n,rfl,n1⟩:=d0T w1
  obtain⟨pnl,pes,rfl,p1,p2,p3⟩:=d0N w2
  obtain⟨ps,q1,q2⟩:=d0V (enc:=tPa) (p:=d1S) (es:=pes) λe he=>by
   obtain⟨y1,r1,rfl,w1,hw⟩:=d0P (p3 e he)
   obtain⟨y2,r2,rfl,w2,hw⟩:=d0P hw
   obtain⟨y3,r3,rfl,w3,hw⟩:=d0P hw
   obtain⟨y4,r4,rfl,w4,hw⟩:=d0P hw
   have:=d0O hw
   subst this
   obtain⟨n,rfl,n1⟩:=d0T w1
   obtain⟨ty,rfl,rfl,rfl,t1⟩:=d2B w2 w3 w4
   exact⟨⟨n,ty⟩,rfl,g6V n1 hN,t1⟩
  subst q1
  obtain⟨ty,rfl,rfl,rfl,t1⟩:=d2B w3 w4 w5
  obtain⟨sn,sl,rfl,s1,s2,s3⟩:=d2D hN hx hs _ y6 w6 rfl
  obtain⟨e,rfl,rfl,rfl,rfl,e1⟩:=d2C hN hx w7 w8 w9 w10
  refine⟨⟨n,pnl,ps,ty,sn,sl,e⟩,rfl,?_⟩
  exact⟨g6V n1 hN,by simpa using g6V p1 hN,λh=>by simpa using p2 h,q2,t1,g6V s1 hN,s2,s3,e1⟩
 obtain⟨ds,h1,h2⟩:=d0V (enc:=tDe) (p:=d1T) (es:=des) λe he=>by
  obtain⟨y1,r1,rfl,w1,hw⟩:=d0P (d3 e he)
  obtain⟨y2,r2,rfl,w2,hw⟩:=d0P hw
  obtain⟨y3,r3,rfl,w3,hw⟩:=d0P hw
  obtain⟨y4,r4,rfl,w4,hw⟩:=d0P hw
  obtain⟨y5,r5,rfl,w5,hw⟩:=d0P hw
  have:=d0O hw
  subst this
  obtain⟨b,rfl⟩:=d0U w1
  obtain⟨n,rfl,n1⟩:=d0T w2
  obtain⟨ty,rfl,rfl,rfl,t1⟩:=d2B w3 w4 w5
  exact⟨⟨b,n,ty⟩,rfl,g6V n1 hN,t1⟩
 subst g1 h1
 refine⟨⟨fnl,fs,dnl,ds,bnl,bo⟩,rfl,rfl,rfl,?_⟩
 exact⟨by simpa using g6V f1 hN,λh=>by simpa using f2 h,g2,by simpa using g6V d1 hN,λh=>by simpa using d2 h,h2,g6V b1 hN,b2,b3⟩
end
end Go.Ky

/- KX 6: valid programs, the checker of types, the steps, in plain words. -/
namespace Go.Ky
open Go.Pi Go.Lx
abbrev B20:Nat:=1100000
def szE (e:Exp):Nat:=b2R (tEx e)
def d2F (l:List Exp):Nat:=b2Q (d1H l)
def szS (s:St):Nat:=b2R (tSt s)
def d2G (l:List St):Nat:=b2Q (d1M l)
theorem d2H (e:Exp):szE e=4+e.name.length+d2F e.args:=by
 unfold szE d2F
 rw[d1J]
 simp only[b2R,tBk]
 omega
theorem d2I (e:Exp) (r:List Exp):d2F (e::r)=szE e+d2F r:=rfl
theorem d2J (s:St):szS s=13+s.name.length+s.ex.name.length+d2F s.ex.args+d2G s.body:=by
 unfold szS d2G d2F
 rw[d1O]
 simp only[b2R,tBk]
 omega
theorem d2K (e:St) (r:List St):d2G (e::r)=szS e+d2G r:=rfl
theorem d2L {l:List Exp} {e:Exp} (h:e∈l):szE e<=d2F l:=by
 induction l with
 |nil=>cases h
 |cons x r ih =>
  rw[d2I]
  rcases g6H.1 h with e|e
  ·subst e;omega
  ·have:=ih e;omega
theorem d2M {l:List St} {e:St} (h:e∈l):szS e<=d2G l:=by
 induction l with
 |nil=>cases h
 |cons x r ih =>
  rw[d2K]
  rcases g6H.1 h with e|e
  ·subst e;omega
  ·have:=ih e;omega
theorem d2N (l:List Exp):l.length<=d2F l:=by
 induction l with
 |nil=>exact g7B _
 |cons x r ih=>rw[d2I,d2H,g5X];omega
theorem d2O (l:List St):l.length<=d2G l:=by
 induction l with
 |nil=>exact g7B _
 |cons x r ih=>rw[d2K,d2J,g5X];omega
theorem d2P (s:St):szE s.ex<=szS s:=by rw[d2J,d2H];omega
def d2Q:List UInt8->Bool
 |[]=>false
 |c::r=>decide ((c::r).length<=24)&&d1A c&&decide (d1D d1C (c::r)=(c::r).length)&&!keywords.contains (c::r)
def tyB (t:Ty):Bool :=
 if t.len < 0\/64 < t.len then false else if t.kind=1\/t.kind=2 then decide (t.bits=0) else if t.kind=3 then decide (1<=t.bits)&&decide (t.bits<=62) else false
def opB (op n v:Int) (nm:Nm):Bool :=
 if op=1 then decide (n=0)&&decide (nm=[])
 else if op=2 then decide (n=0)&&decide (v=0)&&d2Q nm
 else if op=3\/op=4 then decide (n=0)&&decide (v=0)&&decide (nm=[])
 else if op=5 then decide (v=0)&&d2Q nm
 else if op=6 then decide (1<=n)&&decide (nm=[])
 else if op=7 then decide (1<=n)&&decide (v=0)&&decide (nm=[])
 else if op=9\/op=10 then decide (n=1)&&decide (v=0)&&decide (nm=[])
 else if op=20 then decide (n=3)&&decide (v=0)&&decide (nm=[])
 else if op=8\/op=11\/op=12\/op=13\/op=14\/op=15\/op=16\/op=17\/op=18\/op=19 then decide (n=2)&&decide (v=0)&&decide (nm=[])
 else false
mutual
def exB:Exp->Bool
 |.mk o v n _ l=>d2R l&&opB o (l.length:Int) v n
def d2R:List Exp->Bool
 |[]=>true
 |e::r=>exB e&&d2R r
end
theorem d2S (l:List Exp):d2R l=l.all exB:=by
 induction l with
 |nil=>rfl
 |cons e r ih=>rw[d2R,ih];rfl
theorem d2T (e:Exp):exB e=(e.args.all exB&&opB e.op (e.args.length:Int) e.val e.name):=by
 cases e
 rw[exB,d2S];rfl
def d2U (e:Exp):Bool:=decide (e.op=0)&&decide (e.val=0)&&decide (e.name=[])&&decide ((e.args.length:Int)=0)
def d2V (n:Int):Bool:=decide (0<=n)&&decide (n<=1000000)
def d2W (s:St):Bool:=!s.typed&&decide (s.ty=zTy)
mutual
def stB:St->Bool
 |.mk k n b t e lo hi _ l =>
  if k=1 then !(!b&&!decide (t=zTy) || b&&!tyB t)&&d2Q n&&exB e&&decide (lo=0)&&decide (hi=0)&&decide ((l.length:Int)=0)
  else if k=2 then decide (n=[])&&(!b&&decide (t=zTy))&&exB e&&decide (lo=0)&&decide (hi=0)&&decide ((l.length:Int)=0)
  else if k=3 then d2Q n&&(!b&&decide (t=zTy))&&d2U e&&d2V lo&&d2V hi&&d2X l
  else false
def d2X:List St->Bool
 |[]=>true
 |s::r=>stB s&&d2X r
end
theorem d2Y (l:List St):d2X l=l.all stB:=by
 induction l with
 |nil=>rfl
 |cons e r ih=>rw[d2X,ih];rfl
theorem d2Z (s:St):stB s=if s.kind=1 then !(!s.typed&&!decide (s.ty=zTy) || s.typed&&!tyB s.ty)&&d2Q s.name&&exB s.ex&&decide (s.lo=0)&&decide (s.hi=0)&&decide ((s.body.length:Int)=0)
  else if s.kind=2 then decide (s.name=[])&&d2W s&&exB s.ex&&decide (s.lo=0)&&decide (s.hi=0)&&decide ((s.body.length:Int)=0)
  else if s.kind=3 then d2Q s.name&&d2W s&&d2U s.ex&&d2V s.lo&&d2V s.hi&&s.body.all stB
  else false:=by
 cases s
 rw[stB,d2Y];rfl
def paB (p:Pa):Bool:=d2Q p.name&&tyB p.ty
def deB (d:De):Bool:=d2Q d.name&&tyB d.ty
def fuB (f:Fu):Bool:=d2Q f.name&&f.params.all paB&&tyB f.res&&f.body.all stB&&exB f.ret
mutual
def dEx:Exp->Nat
 |.mk _ _ _ _ l=>d3A l+1
def d3A:List Exp->Nat
 |[]=>0
 |e::r=>max (dEx e) (d3A r)
end
mutual
def dSt:St->Nat
 |.mk _ _ _ _ _ _ _ _ l=>d3B l+1
def d3B:List St->Nat
 |[]=>0
 |e::r=>max (dSt e) (d3B r)
end
theorem d3C (e:Exp):dEx e=d3A e.args+1:=by cases e;rfl
theorem d3D (s:St):dSt s=d3B s.body+1:=by cases s;rfl
theorem d3E:∀ e:Exp,dEx e<=szE e:=by
 refine Exp.ind λe ih=>?_
 rw[d3C,d2H]
 have:∀ l:List Exp,(∀ a,a∈l->dEx a<=szE a)->d3A l<=d2F l:=by
  intro l
  induction l with
  |nil=>intro _;exact g7B _
  |cons x r ihr =>
   intro h
   have h1:=h x (by simp)
   have h2:=ihr λa ha=>h a (by simp [ha])
   rw[d3A,d2I]
   omega
 have:=this e.args ih
 omega
theorem d3F:∀ e:St,dSt e<=szS e:=by
 refine St.ind λe ih=>?_
 rw[d3D,d2J]
 have:∀ l:List St,(∀ a,a∈l->dSt a<=szS a)->d3B l<=d2G l:=by
  intro l
  induction l with
  |nil=>intro _;exact g7B _
  |cons x r ihr =>
   intro h
   have h1:=h x (by simp)
   have h2:=ihr λa ha=>h a (by simp [ha])
   rw[d3B,d2K]
   omega
 have:=this e.body ih
 omega
def shE (e:Exp):Bool:=decide ((dEx e:Int)<=40)
mutual
def shS:St->Bool
 |.mk k n b t e lo hi nl l=>decide ((dSt (.mk k n b t e lo hi nl l):Int)<=40)&&shE e&&d3G l
def d3G:List St->Bool
 |[]=>true
 |s::r=>shS s&&d3G r
end
theorem d3H (l:List St):d3G l=l.all shS:=by
 induction l with
 |nil=>rfl
 |cons e r ih=>rw[d3G,ih];rfl
theorem d3I (s:St):shS s=(decide ((dSt s:Int)<=40)&&shE s.ex&&s.body.all shS):=by
 cases s
 rw[shS,d3H];rfl
def shF (f:Fu):Bool:=f.body.all shS&&shE f.ret
def d3J (p:Pg):Int :=
 if (p.funcs.all fuB&&p.decls.all deB&&p.body.all stB)=false then 1 else if (p.funcs.all shF&&p.body.all shS)=false then 3 else 0
structure Sy where
 typ:Ty
 loop:Bool
 low:Int
 high:Int
abbrev Ns:=List (Nm×Sy)
abbrev Fs:=List (Nm×Fu)
def look {α:Type} (k:Nm):List (Nm×α)->Option α
 |[]=>none
 |(j,x)::r=>if k=j then some x else look k r
abbrev tSy (s:Sy):List T:=[.int .i64 s.typ.kind,.int .i64 s.typ.bits,.int .i64 s.typ.len,.bool s.loop,.int .i64 s.low,.int .i64 s.high]
def d3K (t u:Ty):Bool:=if t.len≠u.len then false else if u.kind=1 then true else decide (t.kind=u.kind)&&decide (t.bits<=u.bits)
def d3L (x:Int):Int:=if x=0 then 0 else (x.toNat.log2:Int)+1
def d3M (n:Int):Ty:=if 4611686018427387904<=n then fieldT else ⟨3,if d3L n > 1 then d3L n else 1,0⟩
def d3N (t:Ty):Bool:=decide (t.len=0)
def d3O (t:Ty):Bool:=decide (t=d1G)
abbrev Rt:=Ty×Int
def bad (e:Int):Rt:=(zTy,e)
def d3P (p:Ty->Bool) (l:List Ty) (r:Ty):Rt:=if l.all p then (r,0) else bad 6
def d3Q:List Ty->List Pa->Bool
 |t::r,p::ps=>d3K t p.ty&&d3Q r ps
 |_,_=>true
def d3R (fs:Fs) (nm:Nm) (l:List Ty):Rt :=
 match look nm fs with
 |none=>bad 4
 |some f=>if (l.length:Int)≠(f.params.length:Int) then bad 6 else if d3Q l f.params then (f.res,0) else bad 6
def d3S (a:Ty):List Ty->Ty->Option Ty
 |[],r=>some r
 |t::l,r=>if t.len≠0 then none else if t≠a then d3S a l fieldT else d3S a l r
def d3T (l:List Ty):Rt :=
 match l with
 |[]=>bad 99
 |a::_=>match d3S a l a with
  |none=>bad 6
  |some r=>(⟨r.kind,r.bits,(l.length:Int)⟩,0)
def d3U (c x y:Ty):Rt:=if d3O c=false then bad 6 else if x=y then (x,0) else if d3N x&&d3N y then (fieldT,0) else bad 6
def mx (x y:Int):Int:=if y > x then y else x
def d3V (x y:Ty) (w:Int):Rt×Int :=
 if x.kind≠3\/y.kind≠3\/x.len≠0\/y.len≠0 then (bad 6,w) else ((d1G,0),mx w (IntKind.i64.wrap (mx x.bits y.bits+1)))
def d3W (ns:Ns) (e:Exp) (len:Int):Bool×Int :=
 let most:=IntKind.u64.wrap len
 if e.op=1 then (decide (e.val < most),0)
 else
  let two:=e.op=12\/e.op=13
  let nm:=if two then e.args.getD 0 default else e
  let off:=if two then (e.args.getD 1 default).val else 0
  if two/\(e.args.getD 1 default).op≠1 then (false,6)
  else if nm.op≠2 then (false,6)
  else match look nm.name ns with
   |none=>(false,4)
   |some s=>if s.loop=false then (false,6) else if s.low=s.high then (true,0) else
    let first:=IntKind.u64.wrap s.low
    let last:=IntKind.u64.wrap (IntKind.i64.wrap (s.high - 1))
    if e.op=13 then (decide (off<=first)&&decide (IntKind.u64.wrap (last - off) < most),0)
    else (decide (off < most)&&decide (IntKind.u64.wrap (last+off) < most),0)
def opM (fs:Fs) (ns:Ns) (op val:Int) (nm:Nm) (l:List Ty) (w:Int):Rt×Int :=
 if op=1 then ((d3M val,0),w)
 else if op=3\/op=4 then ((d1G,0),w)
 else if op=2 then ((match look nm ns with|none=>bad 4|some s=>(s.typ,0)),w)
 else if op=5 then (d3R fs nm l,w)
 else if op=6 then (if 65536<=val then bad 8 else d3P d3N l fieldT,w)
 else if op=7 then (d3T l,w)
 else if op=20 then (d3U (l.getD 0 zTy) (l.getD 1 zTy) (l.getD 2 zTy),w)
 else if op=14\/op=15 then (d3P d3N l d1G,w)
 else if op=16\/op=17 then d3V (l.getD 0 zTy) (l.getD 1 zTy) w
 else if op=10\/op=18\/op=19 then (d3P d3O l d1G,w)
 else (d3P d3N l fieldT,w)
def d3X (ns:Ns) (r:Rt×Int) (b:Exp):Rt×Int :=
 if r.1.2≠0 then (bad r.1.2,r.2)
 else
  let q:=d3W ns b r.1.1.len
  if q.2≠0 then (bad q.2,r.2) else if r.1.1.len=0 then (bad 6,r.2) else if q.1=false then (bad 8,r.2) else ((⟨r.1.1.kind,r.1.1.bits,0⟩,0),r.2)
mutual
def exM (fs:Fs) (ns:Ns):Exp->Int->Rt×Int
 |.mk op val nm _ l,w =>
  if op=8 then (match l with
   |a::b::_=>d3X ns (exM fs ns a w) b
   |_=>(bad 99,w))
  else
   let q:=d3Y fs ns l w
   if q.1.2≠0 then (bad q.1.2,q.2) else opM fs ns op val nm q.1.1 q.2
def d3Y (fs:Fs) (ns:Ns):List Exp->Int->(List Ty×Int)×Int
 |[],w=>(([],0),w)
 |a::r,w =>
  let q:=exM fs ns a w
  if q.1.2≠0 then (([],q.1.2),q.2) else
   let q2:=d3Y fs ns r q.2
   if q2.1.2≠0 then (([],q2.1.2),q2.2) else ((q.1.1::q2.1.1,0),q2.2)
end
theorem d3Z (fs:Fs) (ns:Ns) (e:Exp) (w:Int):exM fs ns e w=if e.op=8 then (match e.args with
   |a::b::_=>d3X ns (exM fs ns a w) b
   |_=>(bad 99,w))
  else
   let q:=d3Y fs ns e.args w
   if q.1.2≠0 then (bad q.1.2,q.2) else opM fs ns e.op e.val e.name q.1.1 q.2:=by
 cases e with|mk op v n b l =>
 rcases l with _|⟨x,_|⟨y,r⟩⟩ <;> (simp only[exM];rfl)
abbrev Rs:=Int×Ns×Int
def d4A (nm:Nm) (s:Sy) (ns:Ns) (w:Int):Rs:=match look nm ns with
 |some _=>(5,ns,w)
 |none=>(0,ns++[(nm,s)],w)
def d4B (t:Ty) (w:Int):Int:=if t.kind=3 then mx w t.bits else w
mutual
def stM (fs:Fs):St->Ns->Int->Rs
 |.mk k nm typed ty e lo hi _ l,ns,w =>
  if k=3 then (if lo > hi then (8,ns,w) else match d4A nm ⟨fieldT,true,lo,hi⟩ ns w with
   |(d,ns1,w1)=>if d≠0 then (d,ns1,w1) else match d4C fs l ns1 w1 with
    |(d2,ns2,w2)=>if d2≠0 then (d2,ns2,w2) else (0,ns,w2))
  else
   let q:=exM fs ns e w
   if q.1.2≠0 then (q.1.2,ns,q.2)
   else if k=2 then (if q.1.1≠d1G then 6 else 0,ns,q.2)
   else if typed then (if (ty.len=0/\q.1.1.len≠0)\/(ty.len≠0/\d3K q.1.1 ty=false) then (6,ns,q.2) else d4A nm ⟨ty,false,0,0⟩ ns (d4B ty q.2))
   else d4A nm ⟨q.1.1,false,0,0⟩ ns q.2
def d4C (fs:Fs):List St->Ns->Int->Rs
 |[],ns,w=>(0,ns,w)
 |s::r,ns,w=>match stM fs s ns w with
  |(d,ns1,w1)=>if d≠0 then (d,ns1,w1) else d4C fs r ns1 w1
end
def d4D (fs:Fs) (l:List St) (ns:Ns) (w:Int):Rs:=match d4C fs l ns w with
 |(d,ns1,w1)=>if d≠0 then (d,ns1,w1) else (0,ns,w1)
theorem d4E (fs:Fs) (s:St) (ns:Ns) (w:Int):stM fs s ns w =
  if s.kind=3 then (if s.lo > s.hi then (8,ns,w) else match d4A s.name ⟨fieldT,true,s.lo,s.hi⟩ ns w with
   |(d,ns1,w1)=>if d≠0 then (d,ns1,w1) else match d4C fs s.body ns1 w1 with
    |(d2,ns2,w2)=>if d2≠0 then (d2,ns2,w2) else (0,ns,w2))
  else
   let q:=exM fs ns s.ex w
   if q.1.2≠0 then (q.1.2,ns,q.2)
   else if s.kind=2 then (if q.1.1≠d1G then 6 else 0,ns,q.2)
   else if s.typed then (if (s.ty.len=0/\q.1.1.len≠0)\/(s.ty.len≠0/\d3K q.1.1 s.ty=false) then (6,ns,q.2) else d4A s.name ⟨s.ty,false,0,0⟩ ns (d4B s.ty q.2))
   else d4A s.name ⟨q.1.1,false,0,0⟩ ns q.2:=by
 cases s
 rw[stM];rfl
def d4F:List Pa->Ns->Int->Rs
 |[],ns,w=>(0,ns,w)
 |p::r,ns,w=>match d4A p.name ⟨p.ty,false,0,0⟩ ns w with
  |(d,ns1,w1)=>if d≠0 then (d,ns1,w1) else d4F r ns1 w1
def d4G (fs:Fs) (f:Fu) (w:Int):Int×Fs×Int :=
 match look f.name fs with
 |some _=>(5,fs,w)
 |none=>match d4F f.params [] w with
  |(d,ns1,w1)=>if d≠0 then (d,fs,w1) else match d4C fs f.body ns1 w1 with
   |(d2,ns2,w2)=>if d2≠0 then (d2,fs,w2) else
    let q:=exM fs ns2 f.ret w2
    if q.1.2≠0 then (q.1.2,fs,q.2) else if d3K q.1.1 f.res=false then (6,fs,q.2) else (0,fs++[(f.name,f)],q.2)
def d4H:List Fu->Fs->Int->Int×Fs×Int
 |[],fs,w=>(0,fs,w)
 |f::r,fs,w=>match d4G fs f w with
  |(d,fs1,w1)=>if d≠0 then (d,fs1,w1) else d4H r fs1 w1
def d4I:List De->Ns->Int->Rs
 |[],ns,w=>(0,ns,w)
 |d::r,ns,w=>match d4A d.name ⟨d.ty,false,0,0⟩ ns w with
  |(e,ns1,w1)=>if e≠0 then (e,ns1,w1) else d4I r ns1 (d4B d.ty w1)
def d4J (p:Pg):Int×Int :=
 match d4H p.funcs [] 0 with
 |(d,fs,w)=>if d≠0 then (d,w) else match d4I p.decls [] w with
  |(d1,ns,w1)=>if d1≠0 then (d1,w1) else match d4D fs p.body ns w1 with
   |(d2,_,w2)=>(d2,w2)
def mn (x y:Int):Int:=if y < x then y else x
abbrev Ks:=List (Nm×Int)
def d4K (k:Nm) (l:Ks):Int:=(look k l).getD 0
mutual
def csE (ks:Ks):Exp->Int
 |.mk op _ nm _ l=>mn 20001 (d4L ks l (if op=5 then 1+d4K nm ks else 0))
def d4L (ks:Ks):List Exp->Int->Int
 |[],n=>n
 |e::r,n=>d4L ks r (mn 20001 (n+csE ks e))
end
theorem d4M (ks:Ks) (e:Exp):csE ks e=mn 20001 (d4L ks e.args (if e.op=5 then 1+d4K e.name ks else 0)):=by
 cases e
 rw[csE];rfl
mutual
def bsS (ks:Ks):St->Int
 |.mk k _ _ _ e lo hi _ l=>if k=3 then (hi - lo) * d4N ks l 0 else 1+csE ks e
def d4N (ks:Ks):List St->Int->Int
 |[],n=>n
 |s::r,n=>d4N ks r (mn (n+bsS ks s) 20001)
end
theorem d4O (ks:Ks) (s:St):bsS ks s=if s.kind=3 then (s.hi - s.lo) * d4N ks s.body 0 else 1+csE ks s.ex:=by
 cases s
 rw[bsS];rfl
def d4P (k:Nm) (n:Int):Ks->Ks
 |[]=>[(k,n)]
 |(j,m)::r=>if k=j then (k,n)::r else (j,m)::d4P k n r
def d4Q:List Fu->Ks->Ks
 |[],ks=>ks
 |f::r,ks=>d4Q r (d4P f.name (mn 20001 (d4N ks f.body 0+csE ks f.ret)) ks)
def d4R (p:Pg):Int:=d4N (d4Q p.funcs []) p.body 0
def d4S (p:Pg):Int×Int×Int :=
 if d3J p≠0 then (0,0,1) else match d4J p with
 |(d,w)=>if d≠0 then (0,0,d) else if d4R p > 20000 then (0,0,3) else (w,d4R p,0)
end Go.Ky

/- KX 7: stores that grow; maps with names for keys; slices of types. -/
namespace Go.Ky
open Go.Pi Go.Lx
def Grow (sg sg':Sg):Prop:=∃ r,sg'=sg++r
theorem Grow.refl (sg:Sg):Grow sg sg:=⟨[],by simp⟩
theorem Grow.trans {a b c:Sg} (h:Grow a b) (h':Grow b c):Grow a c:=by
 obtain⟨r,rfl⟩:=h
 obtain⟨r',rfl⟩:=h'
 exact⟨r++r',by rw[g5B]⟩
theorem Grow.app (sg r:Sg):Grow sg (sg++r):=⟨r,rfl⟩
theorem Grow.app2 {a b:Sg} (h:Grow a b) (r:Sg):Grow a (b++r):=h.trans (.app _ _)
theorem Grow.get {sg sg':Sg} (h:Grow sg sg') {i:Nat} {x:Bool×List PV} (hi:sg[i]?=some x):sg'[i]?=some x:=by
 obtain⟨r,rfl⟩:=h
 exact b0R hi
theorem Grow.len {sg sg':Sg} (h:Grow sg sg'):sg.length<=sg'.length:=by
 obtain⟨r,rfl⟩:=h
 simp
def Fr (c:Nat) (sg sg':Sg):Prop:=sg.length<=sg'.length/\∀ i,i < sg.length->i≠c->sg'[i]?=sg[i]?
theorem Fr.refl (c:Nat) (sg:Sg):Fr c sg sg:=⟨g6U _,λ_ _ _=>rfl⟩
theorem Fr.trans {c:Nat} {a b d:Sg} (h:Fr c a b) (h':Fr c b d):Fr c a d :=
 ⟨g6V h.1 h'.1,λi hi hc=>(h'.2 i (g6W hi h.1) hc).trans (h.2 i hi hc)⟩
theorem Fr.of {c:Nat} {a b:Sg} (h:Grow a b):Fr c a b:=by
 obtain⟨r,rfl⟩:=h
 exact⟨by simp,λi hi _=>g5J hi⟩
theorem Fr.get {c:Nat} {a b:Sg} (h:Fr c a b) {i:Nat} {x:Bool×List PV} (hi:a[i]?=some x) (hc:i≠c):b[i]?=some x:=by
 rw[h.2 i (g5O.1 hi).1 hc];exact hi
theorem Fr.set {c:Nat} {a b:Sg} (h:Fr c a b) (x:Bool×List PV):Fr c a (b.set c x):=by
 refine⟨by simpa using h.1,λi hi hc=>?_⟩
 rw[g5S (λe=>hc e.symm)]
 exact h.2 i hi hc
theorem d4T {sg:Sg} {i:Nat} {x y:Bool×List PV} (h:sg[i]?=some x):(sg.set i y)[i]?=some y :=
 g5T (g5O.1 h).1
theorem d4U {sg:Sg} {i:Nat} {x:Bool×List PV} (h:sg[i]?=some x):i < sg.length:=(g5O.1 h).1
def d4V {α:Type} (enc:α->T) (l:List (Nm×α)):List PV:=l.map λp=>.tup [.t (.str p.1),.t (enc p.2)]
theorem d4W (a b:List UInt8):eq1 2 (.str a) (.str b)=some (decide (a=b)):=by
 show some (a == b)=_
 congr 1
 by_cases h:a=b
 ·subst h;simp
 ·rw[g7I h];simpa using h
theorem d4X {α:Type} (enc:α->T) (k:Nm) (l:List (Nm×α)):a0T 2 (.str k) (d4V enc l)=some ((look k l).map enc):=by
 induction l with
 |nil=>rfl
 |cons p r ih =>
  obtain⟨j,x⟩:=p
  show a0T 2 (.str k) (.tup [.t (.str j),.t (enc x)]::d4V enc r)=_
  simp only[a0T,d4W,look]
  by_cases h:k=j
  ·subst h;simp
  ·simp only[g7I h,if_neg h];exact ih
theorem d4Y {α:Type} (enc:α->T) (k:Nm) (v:α) (l:List (Nm×α)) (h:look k l=none):a0U 2 (.str k) (enc v) (d4V enc l)=d4V enc (l++[(k,v)]):=by
 induction l with
 |nil=>rfl
 |cons p r ih =>
  obtain⟨j,x⟩:=p
  simp only[look] at h
  split at h
  ·cases h
  ·rename_i hk
   show a0U 2 (.str k) (enc v) (.tup [.t (.str j),.t (enc x)]::d4V enc r)=_
   simp only[a0U,d4W,g7I hk,ih h]
   simp [d4V]
theorem d4Z (k:Nm) (n:Int) (l:Ks):a0U 2 (.str k) (.int .i64 n) (d4V (λx=>.int .i64 x) l)=d4V (λx=>.int .i64 x) (d4P k n l):=by
 induction l with
 |nil=>rfl
 |cons p r ih =>
  obtain⟨j,x⟩:=p
  show a0U 2 (.str k) (.int .i64 n) (.tup [.t (.str j),.t (.int .i64 x)]::d4V _ r)=_
  simp only[a0U,d4W,d4P]
  by_cases h:k=j
  ·subst h;simp [d4V]
  ·simp only[g7I h,if_neg h,ih]
   simp [d4V]
theorem d5A {α:Type} (enc:α->T) (k:Nm) (v:α) (l r:List (Nm×α)) (h:look k l=none):a0V 2 (.str k) (d4V enc (l++(k,v)::r))=d4V enc (l++r):=by
 induction l with
 |nil=> 
  show a0V 2 (.str k) (.tup [.t (.str k),.t (enc v)]::d4V enc r)=_
  simp [a0V,d4W]
 |cons p l ih =>
  obtain⟨j,x⟩:=p
  simp only[look] at h
  split at h
  ·cases h
  ·rename_i hk
   show a0V 2 (.str k) (.tup [.t (.str j),.t (enc x)]::d4V enc (l++(k,v)::r))=_
   simp only[a0V,d4W,g7I hk,ih h]
   simp [d4V]
theorem d5B {α:Type} (k:Nm) (l r:List (Nm×α)):look k (l++r)=match look k l with|some x=>some x|none=>look k r:=by
 induction l with
 |nil=>rfl
 |cons p l ih =>
  obtain⟨j,x⟩:=p
  simp only[List.cons_append,look]
  split
  ·rfl
  ·exact ih
theorem look_none {α:Type} {k:Nm} {l:List (Nm×α)}:look k l=none↔k ∉ l.map (·.1):=by
 induction l with
 |nil=>simp [look]
 |cons p l ih =>
  obtain⟨j,x⟩:=p
  simp only[look,g6E,g6H,not_or]
  split
  ·rename_i h;simp [h]
  ·rename_i h;rw[ih];simp [h]
theorem d5C (s:Ty) (a b c:Int):(s.kind == a&&(s.bits == b&&s.len == c))=decide (s=⟨a,b,c⟩):=by
 cases s
 simp only[Ty.mk.injEq]
 rw[Bool.eq_iff_iff]
 simp
theorem d5D (s t:Ty):(s.kind == t.kind&&(s.bits == t.bits&&s.len == t.len))=decide (s=t):=d5C s t.kind t.bits t.len
theorem d5E {gl:Nat->Option (List T)} {k l n:Nat} {ag:Bool} (hn:n < 1000) {fr:List PV} {sg:Sg} {ow:Ow} {K:PV->Sg->Ow->Prop}:xR gl [(k,some (ag,n)),(l,none)] K ⟨⟩ .ret ⟨fr,sg,ow⟩↔xO (loadP gl sg ag n (a0A fr k)) (λv=>K (.tup [v,a0A fr l]) sg ow) ⟨⟩:=by
 show b6E gl _ K .ret _↔onO _ _
 simp only[b6E,a1L,g6C,List.mapM_nil,a1K]
 rw[if_pos hn]
 cases loadP gl sg ag n (a0A fr k) <;> rfl
def SlT (sg:Sg) (v:PV) (ts:List Ty):Prop :=
 (ts=[]/\∃ k,v=.own k 3 [])\/∃ a cs,v=.ls a 0 ts.length 3/\sg[a]?=some (false,cs)/\cs.length=ts.length * 3/\∀ i t,ts[i]?=some t->(cs.drop (i * 3)).take 3=[.t (.int .i64 t.kind),.t (.int .i64 t.bits),.t (.int .i64 t.len)]
theorem SlT.grow {sg sg':Sg} {v:PV} {ts:List Ty} (h:SlT sg v ts) (hg:Grow sg sg'):SlT sg' v ts:=by
 rcases h with h|⟨a,cs,h1,h2,h3⟩
 ·exact .inl h
 ·exact .inr ⟨a,cs,h1,hg.get h2,h3⟩
theorem SlT.len {sg:Sg} {v:PV} {ts:List Ty} (h:SlT sg v ts):lenP false v=some ts.length:=by
 rcases h with⟨rfl,k,rfl⟩|⟨a,cs,rfl,_⟩
 ·rfl
 ·rfl
theorem d5F {i n:Nat} (h:i < n) (hn:n<=281474976710656):IntKind.wrap .i64 ((i:Int)+1)=((i+1:Nat):Int):=by rw[IntWalk.i64_in _ (by omega)];omega
end Go.Ky

/- KX 8: the checker's store. -/
namespace Go.Ky
open Go.Pi Go.Lx
theorem d5G {sg sg':Sg} (h:∀ i:Nat,i < sg.length->sg'[i]?=sg[i]?):Grow sg sg':=by
 refine⟨sg'.drop sg.length,?_⟩
 apply List.ext_getElem?
 intro i
 rcases g6X i sg.length with hi|hi
 ·rw[g5J hi,h i hi]
 ·rw[g5K hi,g5L]
  congr 1
  omega
theorem Fr.grow {b:Nat} {sg sg0 sg':Sg} (hg:Grow sg sg0) (h:Fr b sg0 sg') (hb:sg.length<=b):Grow sg sg':=by
 refine d5G λi hi=>?_
 rw[h.2 i (g6W hi hg.len) (by omega)]
 obtain⟨r,rfl⟩:=hg
 exact g5J hi
theorem d5H {sg:Sg} {i:Nat} {x:Bool×List PV} (h:sg[i]?=some x):sg.set i x=sg:=by
 apply List.ext_getElem?
 intro j
 by_cases hj:i=j
 ·subst hj
  rw[g5T (d4U h),h]
 ·rw[g5S hj]
abbrev cTy (t:Ty):List PV:=[.t (.int .i64 t.kind),.t (.int .i64 t.bits),.t (.int .i64 t.len)]
abbrev tRt (r:Rt):PV:=.tup [.t (.agg (tTy r.1)),.t (.int .i64 r.2)]
structure Ck (sg:Sg) (c f n:Nat) (fs:Fs) (ns:Ns) (od:PV) (w:Int):Prop where
 c:sg[c]?=some (false,[.mp f,.mp n,od,.t (.int .i64 w)])
 f:sg[f]?=some (true,d4V (λx=>.agg (tFu x)) fs)
 n:sg[n]?=some (true,d4V (λx=>.agg (tSy x)) ns)
theorem Ck.fc {sg:Sg} {c f n:Nat} {fs:Fs} {ns:Ns} {od:PV} {w:Int} (h:Ck sg c f n fs ns od w):f≠c:=λe=>by
 have h1:=h.c
 have h2:=h.f
 rw[e,h1] at h2
 injection h2 with h2
 injection h2 with h2 _
 cases h2
theorem Ck.nc {sg:Sg} {c f n:Nat} {fs:Fs} {ns:Ns} {od:PV} {w:Int} (h:Ck sg c f n fs ns od w):n≠c:=λe=>by
 have h1:=h.c
 have h2:=h.n
 rw[e,h1] at h2
 injection h2 with h2
 injection h2 with h2 _
 cases h2
theorem Ck.grow {sg sg':Sg} {c f n:Nat} {fs:Fs} {ns:Ns} {od:PV} {w:Int} (h:Ck sg c f n fs ns od w) (hg:Grow sg sg'):Ck sg' c f n fs ns od w:=⟨hg.get h.c,hg.get h.f,hg.get h.n⟩
theorem Ck.fr {sg sg':Sg} {c f n:Nat} {fs:Fs} {ns:Ns} {od:PV} {w w':Int} (h:Ck sg c f n fs ns od w) (hr:Fr c sg sg') (hc:sg'[c]?=some (false,[.mp f,.mp n,od,.t (.int .i64 w')])):Ck sg' c f n fs ns od w':=⟨hc,hr.get h.f h.fc,hr.get h.n h.nc⟩
theorem d5I {sg:Sg} {c:Nat} (h:c < sg.length) (r:Sg):(sg++r)[c]?=sg[c]?:=g5J h
theorem d5J {sg:Sg} {c:Nat} (h:c < sg.length) (r:Sg) (x:Bool×List PV):(sg++r).set c x=sg.set c x++r:=List.set_append_left _ _ h
theorem gs0 {sg r:Sg} {c:Nat} {x:Bool×List PV}:(sg.set c x++r)[sg.length]?=r[0]?:=by
 have:=@b6O _ (sg.set c x) r
 rw[g6A] at this
 exact this
theorem gsk {sg r:Sg} {c k:Nat} {x:Bool×List PV}:(sg.set c x++r)[sg.length+k]?=r[k]?:=by
 have:=@b6P _ (sg.set c x) r k
 rw[g6A] at this
 exact this
theorem ss0 {sg r:Sg} {c:Nat} {x y:Bool×List PV}:(sg.set c x++r).set sg.length y=sg.set c x++r.set 0 y:=by
 have:=@b6Q _ (sg.set c x) r y
 rw[g6A] at this
 exact this
theorem ssk {sg r:Sg} {c k:Nat} {x y:Bool×List PV}:(sg.set c x++r).set (sg.length+k) y=sg.set c x++r.set k y:=by
 have:=@b6R _ (sg.set c x) r y k
 rw[g6A] at this
 exact this
theorem gsc {sg r:Sg} {c:Nat} {x:Bool×List PV} (h:c < sg.length):(sg.set c x++r)[c]?=some x:=by
 rw[g5J (by simpa using h),g5T h]
theorem Fr.setapp (c:Nat) (sg:Sg) (x:Bool×List PV) (r:Sg):Fr c sg (sg.set c x++r):=by
 refine⟨by simp,λi hi hc=>?_⟩
 rw[g5J (by simpa using hi),g5S (λe=>hc e.symm)]
theorem Fr.app {c:Nat} {sg sg':Sg} (h:Fr c sg sg') (r:Sg):Fr c sg (sg'++r):=h.trans (Fr.of (.app _ _))
end Go.Ky

/- KX 9: what a region a1A; three cells of a row. -/
namespace Go.Ky
open Go.Pi Go.Lx
noncomputable def d5K (a b:Option (Bool×List PV)):Option Unit:=@ite _ (a0Z a b) (Classical.propDecidable _) (some ()) none
theorem d5L (a:Option (Bool×List PV)):d5K a a=some ():=by unfold d5K;rw[if_pos (.inl rfl)]
theorem d5M {x a b c d e f a' b' c' d' e' f':PV}:d5K (some (false,[x,a,b,c,d,e,f])) (some (false,[x,a',b',c',d',e',f']))=some ():=by unfold d5K;rw[if_pos (.inr ⟨rfl,rfl,rfl⟩)]
theorem d5N {a b:Option (Bool×List PV)} (h:a0Z a b):d5K a b=some ():=by unfold d5K;rw[if_pos h]
noncomputable def d5O (sg sg':Sg):PV->Option Unit
 |.lp id _=>d5K sg'[id]? sg[id]?
 |_=>none
theorem d5P {fr:List PV} {sg sg':Sg}:b4H fr [] sg sg'=some ():=b4I (λk h=>by cases h)
theorem d5Q {fr:List PV} {k:Nat} {ks:List Nat} {sg sg':Sg}:b4H fr (k::ks) sg sg'=(d5O sg sg' (a0A fr k)).bind λ_=>b4H fr ks sg sg':=by
 by_cases h:a1A fr (k::ks) sg sg'
 ·rw[b4I h]
  obtain⟨id,off,h1,h2⟩:=h k (by simp)
  rw[h1]
  simp only[d5O,d5N h2,Option.bind_some]
  rw[b4I (λj hj=>h j (by simp [hj]))]
 ·have hn:b4H fr (k::ks) sg sg'=none:=by
   unfold b4H
   rw[if_neg (λe=>h (keepsB_iff.1 e))]
  rw[hn]
  cases hk:d5O sg sg' (a0A fr k) with
  |none=>rfl
  |some u =>
   simp only[Option.bind_some]
   by_cases h2:a1A fr ks sg sg'
   ·exfalso
    apply h
    intro j hj
    rcases g6H.1 hj with e|e
    ·subst e
     cases hv:a0A fr j <;> rw[hv] at hk <;> simp only[d5O,reduceCtorEq] at hk
     rename_i id off
     refine⟨id,off,rfl,?_⟩
     unfold d5K at hk
     by_cases he:a0Z sg'[id]? sg[id]?
     ·exact he
     ·simp [he] at hk
    ·exact h2 j e
   ·unfold b4H
    rw[if_neg (λe=>h2 (keepsB_iff.1 e))]
def Fr2 (c a:Nat) (sg sg':Sg):Prop:=sg.length<=sg'.length/\∀ i,i < sg.length->i≠c->i≠a->sg'[i]?=sg[i]?
theorem Fr2.refl (c a:Nat) (sg:Sg):Fr2 c a sg sg:=⟨g6U _,λ_ _ _ _=>rfl⟩
theorem Fr2.trans {c a:Nat} {x y z:Sg} (h:Fr2 c a x y) (h':Fr2 c a y z):Fr2 c a x z :=
 ⟨g6V h.1 h'.1,λi hi hc ha=>(h'.2 i (g6W hi h.1) hc ha).trans (h.2 i hi hc ha)⟩
theorem Fr2.of {c a:Nat} {x y:Sg} (h:Fr c x y):Fr2 c a x y:=⟨h.1,λi hi hc _=>h.2 i hi hc⟩
theorem Fr2.get {c a:Nat} {x y:Sg} (h:Fr2 c a x y) {i:Nat} {v:Bool×List PV} (hi:x[i]?=some v) (hc:i≠c) (ha:i≠a):y[i]?=some v:=by
 rw[h.2 i (d4U hi) hc ha];exact hi
theorem Fr2.set {c a:Nat} {x y:Sg} (h:Fr2 c a x y) (v:Bool×List PV):Fr2 c a x (y.set a v):=by
 refine⟨by simpa using h.1,λi hi hc ha=>?_⟩
 rw[g5S (λe=>ha e.symm)]
 exact h.2 i hi hc ha
theorem Fr2.fr {c a:Nat} {sg x y:Sg} (hg:Fr c sg x) (h:Fr2 c a x y) (ha:sg.length<=a):Fr c sg y :=
 ⟨g6V hg.1 h.1,λi hi hc=>(h.2 i (g6W hi hg.1) hc (by omega)).trans (hg.2 i hi hc)⟩
theorem set3 {cs:List PV} {i:Nat} {a b c:PV} (h:i * 3+3<=cs.length) :
  (((cs.set (i * 3) a).set (i * 3+1) b).set (i * 3+1+1) c).length=cs.length/\((((cs.set (i * 3) a).set (i * 3+1) b).set (i * 3+1+1) c).drop (i * 3)).take 3=[a,b,c] /\
  ∀ j,j≠i->((((cs.set (i * 3) a).set (i * 3+1) b).set (i * 3+1+1) c).drop (j * 3)).take 3=(cs.drop (j * 3)).take 3:=by
 refine⟨by simp,?_,λj hj=>?_⟩
 ·apply List.ext_getElem?
  intro k
  rw[g5U,g5L]
  by_cases hk:k < 3
  ·rw[if_pos hk]
   match k,hk with
   |0,_=>rw[g5S (by omega),g5S (by omega)];simp only[g6R];rw[g5T (by omega)];rfl
   |1,_=>rw[g5S (by omega),g5T (by simp;omega)];rfl
   |2,_=>rw[g5T (by simp;omega)];rfl
  ·rw[if_neg hk,g5N (by simp;omega)]
 ·apply List.ext_getElem?
  intro k
  rw[g5U,g5U,g5L,g5L]
  by_cases hk:k < 3
  ·rw[if_pos hk,if_pos hk,g5S (by omega),g5S (by omega),g5S (by omega)]
  ·rw[if_neg hk,if_neg hk]
theorem d5R {e:Exp} (h:exB e=true) (ho:e.op=8\/e.op=12\/e.op=13\/e.op=16\/e.op=17):∃ a b,e.args=[a,b]:=by
 rw[d2T] at h
 simp only[g4S] at h
 have h2:=h.2
 have hl:e.args.length=2:=by
  unfold opB at h2
  rcases ho with ho|ho|ho|ho|ho <;> rw[ho] at h2 <;> simp at h2 <;> omega
 match hq:e.args,hl with
 |[a,b],_=>exact⟨a,b,rfl⟩
theorem d5S {e:Exp} (h:exB e=true) (ho:e.op=20):∃ a b c,e.args=[a,b,c]:=by
 rw[d2T] at h
 simp only[g4S] at h
 have h2:=h.2
 have hl:e.args.length=3:=by
  unfold opB at h2
  rw[ho] at h2
  simp at h2
  omega
 match hq:e.args,hl with
 |[a,b,c],_=>exact⟨a,b,c,rfl⟩
theorem d5T {e:Exp} (h:exB e=true) (ho:e.op=7):0 < e.args.length:=by
 rw[d2T] at h
 simp only[g4S] at h
 have h2:=h.2
 unfold opB at h2
 rw[ho] at h2
 simp at h2
 omega
theorem d5U {e:Exp} (h:exB e=true):∀ a,a∈e.args->exB a=true:=by
 rw[d2T] at h
 simp only[g4S] at h
 exact g5A.1 h.1
end Go.Ky

/- KX 10: arrays of types under way. -/
namespace Go.Ky
open Go.Pi Go.Lx
theorem Ck.fr2 {sg sg':Sg} {c f n a:Nat} {fs:Fs} {ns:Ns} {od:PV} {w w':Int} (h:Ck sg c f n fs ns od w) (hr:Fr2 c a sg sg') (hf:f≠a) (hn:n≠a) (hc:sg'[c]?=some (false,[.mp f,.mp n,od,.t (.int .i64 w')])):Ck sg' c f n fs ns od w':=⟨hc,hr.get h.f h.fc hf,hr.get h.n h.nc hn⟩
theorem Fr2.app {c a:Nat} {x y:Sg} (h:Fr2 c a x y) (r:Sg):Fr2 c a x (y++r):=h.trans (Fr2.of (Fr.of (.app _ _)))
theorem d5V {cs:List PV} {a b:Ty} (hl:cs.length=2 * 3) (h:∀ i t,[a,b][i]?=some t->(cs.drop (i * 3)).take 3=cTy t):cs=cTy a++cTy b:=by
 have h0:=h 0 a rfl
 have h1:=h 1 b rfl
 match cs,hl with
 |[x1,x2,x3,x4,x5,x6],_ =>
  simp at h0 h1
  simp [h0,h1]
theorem d5W {cs:List PV} {a b d:Ty} (hl:cs.length=3 * 3) (h:∀ i t,[a,b,d][i]?=some t->(cs.drop (i * 3)).take 3=cTy t):cs=cTy a++(cTy b++cTy d):=by
 have h0:=h 0 a rfl
 have h1:=h 1 b rfl
 have h2:=h 2 d rfl
 match cs,hl with
 |[x1,x2,x3,x4,x5,x6,x7,x8,x9],_ =>
  simp at h0 h1 h2
  simp [h0,h1,h2]
theorem d5X (n:Nat):((List.replicate n [T.int .i64 0,T.int .i64 0,T.int .i64 0]).flatten.map PV.t).length=n * 3:=by
 rw[g5Y,List.length_flatten]
 simp
def Arr (sg:Sg) (a n:Nat) (ts:List Ty):Prop:=∃ cs,sg[a]?=some (false,cs)/\cs.length=n * 3/\∀ i t,ts[i]?=some t->(cs.drop (i * 3)).take 3=cTy t
theorem Arr.get {sg sg':Sg} {a n:Nat} {ts:List Ty} (h:Arr sg a n ts) (hg:sg'[a]?=sg[a]?):Arr sg' a n ts:=by
 obtain⟨cs,h1,h2⟩:=h
 exact⟨cs,by rw[hg];exact h1,h2⟩
theorem Arr.put {sg:Sg} {a n:Nat} {ts:List Ty} {cs:List PV} (h:cs.length=n * 3) (hcs:∀ i t,ts[i]?=some t->(cs.drop (i * 3)).take 3=cTy t) (hn:ts.length < n) (ha:a < sg.length) (t:Ty) :
  Arr (sg.set a (false,(((cs.set (ts.length * 3) (.t (.int .i64 t.kind))).set (ts.length * 3+1) (.t (.int .i64 t.bits))).set (ts.length * 3+1+1) (.t (.int .i64 t.len))))) a n (ts++[t]):=by
 have hs:=set3 (cs:=cs) (i:=ts.length) (a:=.t (.int .i64 t.kind)) (b:=.t (.int .i64 t.bits)) (c:=.t (.int .i64 t.len)) (by omega)
 refine⟨_,g5T ha,by rw[hs.1,h],λi u hu=>?_⟩
 by_cases hi:i=ts.length
 ·subst hi
  rw[hs.2.1]
  simp at hu
  subst hu
  rfl
 ·rw[hs.2.2 i hi]
  have hlt:=(g5O.1 hu).1
  simp at hlt
  rw[g5J (by omega)] at hu
  exact hcs i u hu
theorem d5Y (fs:Fs) (ns:Ns) (a:Exp) (r:List Exp) (w:Int):d3Y fs ns (a::r) w=if (exM fs ns a w).1.2≠0 then (([],(exM fs ns a w).1.2),(exM fs ns a w).2) else
   if (d3Y fs ns r (exM fs ns a w).2).1.2≠0 then (([],(d3Y fs ns r (exM fs ns a w).2).1.2),(d3Y fs ns r (exM fs ns a w).2).2) else (((exM fs ns a w).1.1::(d3Y fs ns r (exM fs ns a w).2).1.1,0),(d3Y fs ns r (exM fs ns a w).2).2):=by
 rw[d3Y]
theorem d5Z (sg:Sg) (ow:Ow) (n:Nat) (h:n<=B20):∃ v r ow',b4G false sg ow 3 24 [.int .i64 0,.int .i64 0,.int .i64 0] (.t (.int .i64 n)) (.t (.int .i64 n))=some (v,sg++r,ow')/\((n=0/\∃ k,v=.own k 3 [])\/(0 < n/\v=.ls sg.length 0 n 3/\Arr (sg++r) sg.length n [])):=by
 have hb:B20=1100000:=rfl
 have hr:a0M n 24=true:=by unfold a0M;simp only[g7L];omega
 by_cases h0:n=0
 ·subst h0
  exact⟨_,[],_,by simp [b4G,hr];exact⟨rfl,rfl⟩,.inl ⟨rfl,_,rfl⟩⟩
 ·refine⟨_,[(false,(List.replicate n [T.int .i64 0,T.int .i64 0,T.int .i64 0]).flatten.map PV.t)],ow,?_,.inr ⟨by omega,rfl,?_⟩⟩
  ·have h1:¬(n:Int)=0:=by omega
   simp [b4G,hr]
   exact h0
  ·exact⟨_,List.getElem?_concat_length,d5X n,λi t ht=>by simp at ht⟩
theorem d6A {e:Exp} (h:szE e<=B20):e.args.length<=B20/\∀ a,a∈e.args->szE a<=B20:=by
 rw[d2H] at h
 exact⟨by have:=d2N e.args;omega,λa ha=>by have:=d2L ha;omega⟩
end Go.Ky

/- KX 11: the order of the names. -/
namespace Go.Ky
open Go.Pi Go.Lx
def isB (od:PV) (i:Nat):Prop:=∃ l,od=.bf i l 1
structure Fq (c n:Nat) (od od':PV) (sg sg':Sg):Prop where
 len:sg.length<=sg'.length
 keep:∀ i,i < sg.length->i≠c->i≠n->¬isB od i->sg'[i]?=sg[i]?
 od:∀ i,isB od' i->isB od i\/sg.length<=i
theorem Fq.of {c n:Nat} {od:PV} {sg sg':Sg} (h:Fr c sg sg'):Fq c n od od sg sg':=⟨h.1,λi hi hc _ _=>h.2 i hi hc,λ_ h=>.inl h⟩
theorem Fq.refl (c n:Nat) (od:PV) (sg:Sg):Fq c n od od sg sg:=.of (Fr.refl _ _)
theorem Fq.trans {c n:Nat} {o1 o2 o3:PV} {x y z:Sg} (h:Fq c n o1 o2 x y) (h':Fq c n o2 o3 y z):Fq c n o1 o3 x z:=by
 have hl:=h.len
 refine⟨g6V h.len h'.len,λi hi hc hn hb=>?_,λi hi=>?_⟩
 ·rw[h'.keep i (by omega) hc hn (λhb2=>by rcases h.od i hb2 with h1|h1;exact hb h1;omega),h.keep i hi hc hn hb]
 ·rcases h'.od i hi with h1|h1
  ·exact h.od i h1
  ·exact .inr (by omega)
theorem Fq.get {c n:Nat} {o1 o2:PV} {x y:Sg} (h:Fq c n o1 o2 x y) {i:Nat} {v:Bool×List PV} (hi:x[i]?=some v) (hc:i≠c) (hn:i≠n) (hb:¬isB o1 i):y[i]?=some v:=by
 rw[h.keep i (d4U hi) hc hn hb];exact hi
def Od (sg:Sg) (c:Nat) (od:PV) (ns:Ns):Prop:=(ns.map (·.1)).Nodup/\((ns=[]/\od=.t (.sl true []))\/∃ oid cs,od=.bf oid ns.length 1/\oid≠c/\sg[oid]?=some (false,cs)/\0 < cs.length/\ns.length<=cs.length/\∀ (i:Nat) (p:Nm×Sy),ns[i]?=some p->cs[i]?=some (PV.t (T.str p.1)))
theorem Od.len {sg:Sg} {c:Nat} {od:PV} {ns:Ns} (h:Od sg c od ns):lenP false od=some ns.length:=by
 rcases h.2 with⟨rfl,rfl⟩|⟨oid,cs,rfl,_⟩ <;> rfl
theorem Od.fr {sg sg':Sg} {c:Nat} {od:PV} {ns:Ns} (h:Od sg c od ns) (hr:Fr c sg sg'):Od sg' c od ns:=by
 refine⟨h.1,?_⟩
 rcases h.2 with h|⟨oid,cs,h1,h2,h3,h4⟩
 ·exact .inl h
 ·exact .inr ⟨oid,cs,h1,h2,hr.get h3 h2,h4⟩
structure Cs (sg:Sg) (c f n:Nat) (fs:Fs) (ns:Ns) (od:PV) (w:Int):Prop where
 ck:Ck sg c f n fs ns od w
 od:Od sg c od ns
 fn:f≠n
theorem Cs.fr {sg sg':Sg} {c f n:Nat} {fs:Fs} {ns:Ns} {od:PV} {w w':Int} (h:Cs sg c f n fs ns od w) (hr:Fr c sg sg') (hc:sg'[c]?=some (false,[.mp f,.mp n,od,.t (.int .i64 w')])):Cs sg' c f n fs ns od w':=⟨h.ck.fr hr hc,h.od.fr hr,h.fn⟩
theorem Cs.grow {sg sg':Sg} {c f n:Nat} {fs:Fs} {ns:Ns} {od:PV} {w:Int} (h:Cs sg c f n fs ns od w) (hr:Grow sg sg'):Cs sg' c f n fs ns od w:=h.fr (Fr.of hr) (hr.get h.ck.c)
theorem Cs.notB {sg:Sg} {c f n:Nat} {fs:Fs} {ns:Ns} {od:PV} {w:Int} (h:Cs sg c f n fs ns od w) {i:Nat} {es:List PV} (hi:sg[i]?=some (true,es)):¬isB od i:=by
 rintro⟨l,rfl⟩
 rcases h.od.2 with⟨_,h1⟩|⟨oid,cs,h1,_,h2,_⟩
 ·cases h1
 ·injection h1 with h1
  subst h1
  rw[h2] at hi
  injection hi with hi
  injection hi with hi
  cases hi
theorem Cs.notB2 {sg:Sg} {c f n:Nat} {fs:Fs} {ns:Ns} {od:PV} {w:Int} (h:Cs sg c f n fs ns od w) {i:Nat} (hi:sg.length<=i):¬isB od i:=by
 rintro⟨l,rfl⟩
 rcases h.od.2 with⟨_,h1⟩|⟨oid,cs,h1,_,h2,_⟩
 ·cases h1
 ·injection h1 with h1
  subst h1
  have:=d4U h2
  omega
theorem Cs.dec {sg sg':Sg} {c f n:Nat} {fs:Fs} {ns:Ns} {od:PV} {w:Int} {nm:Nm} {s:Sy} {o:Nat} {cs:List PV} (hk:Cs sg c f n fs ns od w) (hl:look nm ns=none) (hlen:sg.length<=sg'.length)
  (hc:sg'[c]?=some (false,[.mp f,.mp n,.bf o (ns.length+1) 1,.t (.int .i64 w)])) (hn:sg'[n]?=some (true,d4V (λx=>.agg (tSy x)) (ns++[(nm,s)]))) (ho:sg'[o]?=some (false,cs)) (hcs:cs=ns.map (λp=>PV.t (T.str p.1))++[.t (.str nm)]) (hon:sg.length<=o)
  (hkeep:∀ i,i < sg.length->i≠c->i≠n->¬isB od i->sg'[i]?=sg[i]?):Cs sg' c f n fs (ns++[(nm,s)]) (.bf o (ns.length+1) 1) w/\Fq c n od (.bf o (ns.length+1) 1) sg sg':=by
 refine⟨⟨⟨hc,?_,hn⟩,⟨?_,.inr ⟨o,cs,by simp,?_,ho,?_,?_,?_⟩⟩,hk.fn⟩,hlen,hkeep,?_⟩
 ·rw[hkeep f (d4U hk.ck.f) hk.ck.fc hk.fn (hk.notB hk.ck.f)];exact hk.ck.f
 ·rw[g6D,List.nodup_append]
  refine⟨hk.od.1,by simp,?_⟩
  intro a ha b hb
  simp at hb
  subst hb
  intro e
  exact look_none.1 hl (e ▸ ha)
 ·have:=d4U hk.ck.c;omega
 ·rw[hcs];simp
 ·rw[hcs];simp
 ·intro i p hp
  rw[hcs]
  rcases g6X i ns.length with h|h
  ·rw[g5J h] at hp
   rw[g5J (by simpa using h),g5P,hp];rfl
  ·have hlt:=(g5O.1 hp).1
   simp at hlt
   have:i=ns.length:=by omega
   subst this
   simp at hp
   subst hp
   simp
 ·rintro i ⟨l,h⟩
  injection h with h
  exact .inr (by omega)
def d6B (c f n:Nat) (fs:Fs) (od:PV) (sg:Sg) (r:Rs) (v:PV) (sg':Sg):Prop:=v=.t (.int .i64 r.1)/\(r.1=0->∃ od',Cs sg' c f n fs r.2.1 od' r.2.2/\Fq c n od od' sg sg')
theorem d6C {ns:Ns} {cs:List PV} (_:ns.length<=cs.length) (h:∀ (i:Nat) (p:Nm×Sy),ns[i]?=some p->cs[i]?=some (PV.t (T.str p.1))):cs.take ns.length=ns.map λp=>PV.t (T.str p.1):=by
 apply List.ext_getElem?
 intro i
 rw[g5U,g5P]
 by_cases hi:i < ns.length
 ·rw[if_pos hi,h i ns[i] (g5M hi),g5M hi];rfl
 ·rw[if_neg hi,g5N (by omega)];rfl
theorem d6D {ns:Ns} (h:(ns.map (·.1)).Nodup) {m j:Nat} {x:Nm×Sy} (hx:ns[j]?=some x) (hm:m<=j):look x.1 (ns.take m)=none:=by
 rw[look_none]
 intro hc
 rw[<-g6P m ns,g6D,List.nodup_append] at h
 refine h.2.2 x.1 hc x.1 ?_ rfl
 have:(ns.drop m)[j - m]?=some x:=by rw[g5L,show m+(j - m)=j by omega];exact hx
 exact List.mem_map.2 ⟨x,g6K this,rfl⟩
theorem Cs.cut {sg sg':Sg} {c f n oid:Nat} {fs:Fs} {ns:Ns} {w:Int} {cs:List PV} (hk:Cs sg c f n fs ns (.bf oid ns.length 1) w) {m:Nat} (hm:m<=ns.length) (o1:oid≠c) (o2:sg[oid]?=some (false,cs)) (o3:0 < cs.length) (o4:ns.length<=cs.length) (o5:∀ (i:Nat) (p:Nm×Sy),ns[i]?=some p->cs[i]?=some (PV.t (T.str p.1))) (hlen:sg.length=sg'.length)
  (hg:∀ j,j≠n->j≠c->sg'[j]?=sg[j]?) (hn:sg'[n]?=some (true,d4V (λx=>.agg (tSy x)) (ns.take m))) (hc:sg'[c]?=some (false,[.mp f,.mp n,.bf oid m 1,.t (.int .i64 w)])):Cs sg' c f n fs (ns.take m) (.bf oid m 1) w/\Fq c n (.bf oid ns.length 1) (.bf oid m 1) sg sg':=by
 have hno:oid≠n:=λe=>by rw[e,hk.ck.n] at o2;simp at o2
 refine⟨⟨⟨hc,?_,hn⟩,⟨?_,.inr ⟨oid,cs,?_,o1,?_,o3,?_,?_⟩⟩,hk.fn⟩,by omega,λi _ hic hin _=>hg i hin hic,?_⟩
 ·rw[hg f hk.fn hk.ck.fc];exact hk.ck.f
 ·rw[List.map_take];exact hk.od.1.sublist (List.take_sublist _ _)
 ·rw[g6B,Nat.min_eq_left hm]
 ·rw[hg oid hno o1];exact o2
 ·rw[g6B];omega
 ·intro i p hp
  rw[g5U] at hp
  split at hp
  ·exact o5 i p hp
  ·cases hp
 ·rintro i ⟨l,h⟩
  injection h with h
  subst h
  exact .inl ⟨_,rfl⟩
theorem Cs.cut0 {sg sg':Sg} {c f n:Nat} {fs:Fs} {w:Int} (hk:Cs sg c f n fs [] (.t (.sl true [])) w) (hlen:sg.length=sg'.length)
  (hg:∀ j,j≠n->sg'[j]?=sg[j]?) (hn:sg'[n]?=some (true,[])):Cs sg' c f n fs [] (.t (.sl true [])) w/\Fq c n (.t (.sl true [])) (.t (.sl true [])) sg sg':=by
 refine⟨⟨⟨?_,?_,hn⟩,⟨by simp,.inl ⟨rfl,rfl⟩⟩,hk.fn⟩,by omega,λi _ hic hin _=>hg i hin,?_⟩
 ·rw[hg c hk.ck.nc.symm];exact hk.ck.c
 ·rw[hg f hk.fn];exact hk.ck.f
 ·rintro i ⟨l,h⟩
  cases h
theorem d6E {nm:Nm} {s:Sy} {ns:Ns} {w:Int} (h:(d4A nm s ns w).1=0):d4A nm s ns w=(0,ns++[(nm,s)],w):=by
 unfold d4A at h ⊢
 cases hl:look nm ns with
 |none=>rfl
 |some x=>rw[hl] at h;cases h
theorem d6F (fs:Fs):∀ (s:St) (ns:Ns) (w:Int),(stM fs s ns w).1=0->∃ r,(stM fs s ns w).2.1=ns++r/\r.length<=1:=by
 intro s ns w
 rw[d4E]
 split
 ·split
  ·intro h;cases h
  ·split
   rename_i d ns1 w1 hd
   split
   ·intro h;contradiction
   ·split
    rename_i d2 ns2 w2 hd2
    split
    ·intro h;contradiction
    ·intro _;exact⟨[],by simp,by simp⟩
 ·intro h
  revert h
  simp only
  have hdec:∀ (s2:Sy) (w2:Int),(d4A s.name s2 ns w2).1=0->∃ r,(d4A s.name s2 ns w2).2.1=ns++r/\r.length<=1:=λs2 w2 h=>by
   rw[d6E h];exact⟨_,rfl,by simp⟩
  split
  ·intro h;contradiction
  ·split
   ·intro _;exact⟨[],by simp,by simp⟩
   ·split
    ·split
     ·intro h;cases h
     ·exact hdec _ _
    ·exact hdec _ _
theorem d6G (fs:Fs) (s:St) (r:List St) (ns:Ns) (w:Int):d4C fs (s::r) ns w=if (stM fs s ns w).1≠0 then stM fs s ns w else d4C fs r (stM fs s ns w).2.1 (stM fs s ns w).2.2:=by
 rw[d4C]
theorem d6H (fs:Fs):∀ (l:List St) (ns:Ns) (w:Int),(d4C fs l ns w).1=0->∃ r,(d4C fs l ns w).2.1=ns++r/\r.length<=l.length:=by
 intro l
 induction l with
 |nil=>intro ns w _;exact⟨[],by rw[d4C];simp,by simp⟩
 |cons s l ih =>
  intro ns w
  rw[d6G]
  split
  ·intro h;contradiction
  ·rename_i h0
   intro h
   obtain⟨r1,h1,h2⟩:=d6F fs s ns w (by simpa using h0)
   obtain⟨r2,h3,h4⟩:=ih _ _ h
   exact⟨r1++r2,by rw[h3,h1,g5B],by simp;omega⟩
theorem d6I (fs:Fs) (l:List St) (ns:Ns) (w:Int):d4D fs l ns w=if (d4C fs l ns w).1≠0 then d4C fs l ns w else (0,ns,(d4C fs l ns w).2.2):=by
 unfold d4D
 rfl
theorem d6J {fs:Fs} {s:St} {ns:Ns} {w:Int} (h3:s.kind=3):stM fs s ns w=if s.lo > s.hi then (8,ns,w) else if (d4A s.name ⟨fieldT,true,s.lo,s.hi⟩ ns w).1≠0 then d4A s.name ⟨fieldT,true,s.lo,s.hi⟩ ns w
  else if (d4C fs s.body (d4A s.name ⟨fieldT,true,s.lo,s.hi⟩ ns w).2.1 (d4A s.name ⟨fieldT,true,s.lo,s.hi⟩ ns w).2.2).1≠0 then d4C fs s.body (d4A s.name ⟨fieldT,true,s.lo,s.hi⟩ ns w).2.1 (d4A s.name ⟨fieldT,true,s.lo,s.hi⟩ ns w).2.2 else (0,ns,(d4C fs s.body (d4A s.name ⟨fieldT,true,s.lo,s.hi⟩ ns w).2.1 (d4A s.name ⟨fieldT,true,s.lo,s.hi⟩ ns w).2.2).2.2):=by
 rw[d4E,if_pos h3]
theorem d6K {fs:Fs} {s:St} {ns:Ns} {w:Int} (h3:s.kind≠3):stM fs s ns w=if (exM fs ns s.ex w).1.2≠0 then ((exM fs ns s.ex w).1.2,ns,(exM fs ns s.ex w).2)
   else if s.kind=2 then (if (exM fs ns s.ex w).1.1≠d1G then 6 else 0,ns,(exM fs ns s.ex w).2)
   else if s.typed then (if (s.ty.len=0/\(exM fs ns s.ex w).1.1.len≠0)\/(s.ty.len≠0/\d3K (exM fs ns s.ex w).1.1 s.ty=false) then (6,ns,(exM fs ns s.ex w).2) else d4A s.name ⟨s.ty,false,0,0⟩ ns (d4B s.ty (exM fs ns s.ex w).2))
   else d4A s.name ⟨(exM fs ns s.ex w).1.1,false,0,0⟩ ns (exM fs ns s.ex w).2:=by
 rw[d4E,if_neg h3]
theorem d6L {s:St} (h:szS s<=B20):s.body.length<=B20/\∀ b,b∈s.body->szS b<=B20:=by
 rw[d2J] at h
 exact⟨by have:=d2O s.body;omega,λa ha=>by have:=d2M ha;omega⟩
theorem d6M {s:St} (h:stB s=true) (h3:s.kind≠3):exB s.ex=true:=by
 rw[d2Z,if_neg h3] at h
 split at h
 ·simp only[g4S] at h;exact h.1.1.1.2
 ·split at h
  ·simp only[g4S] at h;exact h.1.1.1.2
  ·cases h
theorem d6N {s:St} (h:stB s=true) (h3:s.kind=3):∀ b,b∈s.body->stB b=true:=by
 rw[d2Z] at h
 simp only[h3] at h
 simp at h
 intro b hb
 exact h.2 b hb
theorem d6O {s:St} (h:StOk s):ExpOk s.ex:=by cases h with|mk _ h1 h2 h3 h4 h5 h6 h7 h8 h=>exact h4
theorem d6P {s:St} (h:StOk s):∀ b,b∈s.body->StOk b:=by cases h with|mk _ h1 h2 h3 h4 h5 h6 h7 h8 h=>exact h
end Go.Ky

/- KX 12: functions, declarations, programs. -/
namespace Go.Ky
open Go.Pi Go.Lx
structure Fg (c f n:Nat) (od od':PV) (sg sg':Sg):Prop where
 len:sg.length<=sg'.length
 keep:∀ i,i < sg.length->i≠c->i≠f->i≠n->¬isB od i->sg'[i]?=sg[i]?
 od:∀ i,isB od' i->isB od i\/sg.length<=i
theorem Fg.of {c f n:Nat} {od od':PV} {sg sg':Sg} (h:Fq c n od od' sg sg'):Fg c f n od od' sg sg':=⟨h.len,λi hi hc _ hn hb=>h.keep i hi hc hn hb,h.od⟩
theorem Fg.refl (c f n:Nat) (od:PV) (sg:Sg):Fg c f n od od sg sg:=.of (.refl _ _ _ _)
theorem Fg.trans {c f n:Nat} {o1 o2 o3:PV} {x y z:Sg} (h:Fg c f n o1 o2 x y) (h':Fg c f n o2 o3 y z):Fg c f n o1 o3 x z:=by
 have hl:=h.len
 refine⟨g6V h.len h'.len,λi hi hc hf hn hb=>?_,λi hi=>?_⟩
 ·rw[h'.keep i (by omega) hc hf hn (λhb2=>by rcases h.od i hb2 with h1|h1;exact hb h1;omega),h.keep i hi hc hf hn hb]
 ·rcases h'.od i hi with h1|h1
  ·exact h.od i h1
  ·exact .inr (by omega)
theorem Fg.get {c f n:Nat} {o1 o2:PV} {x y:Sg} (h:Fg c f n o1 o2 x y) {i:Nat} {v:Bool×List PV} (hi:x[i]?=some v) (hc:i≠c) (hf:i≠f) (hn:i≠n) (hb:¬isB o1 i):y[i]?=some v:=by
 rw[h.keep i (d4U hi) hc hf hn hb];exact hi
theorem Cs.fun {sg:Sg} {c f n:Nat} {fs fs':Fs} {ns:Ns} {od:PV} {w:Int} (hk:Cs sg c f n fs ns od w) (x:List PV) (hx:x=d4V (λx=>.agg (tFu x)) fs'):Cs (sg.set f (true,x)) c f n fs' ns od w/\Fg c f n od od sg (sg.set f (true,x)):=by
 have hfl:=d4U hk.ck.f
 refine⟨⟨⟨?_,?_,?_⟩,⟨hk.od.1,?_⟩,hk.fn⟩,by simp,λi hi hc hf hn _=>g5S (λe=>hf e.symm),λ_ h=>.inl h⟩
 ·rw[g5S hk.ck.fc];exact hk.ck.c
 ·rw[g5T hfl,hx]
 ·rw[g5S hk.fn];exact hk.ck.n
 ·rcases hk.od.2 with h|⟨oid,cs,h1,h2,h3,h4⟩
  ·exact .inl h
  ·refine .inr ⟨oid,cs,h1,h2,?_,h4⟩
   have:f≠oid:=λe=>by rw[<-e,hk.ck.f] at h3;simp at h3
   rw[g5S this];exact h3
theorem d6Q (p:Pa) (r:List Pa) (ns:Ns) (w:Int):d4F (p::r) ns w=if (d4A p.name ⟨p.ty,false,0,0⟩ ns w).1≠0 then d4A p.name ⟨p.ty,false,0,0⟩ ns w else d4F r (d4A p.name ⟨p.ty,false,0,0⟩ ns w).2.1 (d4A p.name ⟨p.ty,false,0,0⟩ ns w).2.2:=by
 rw[d4F]
theorem d6R:∀ (l:List Pa) (ns:Ns) (w:Int),(d4F l ns w).1=0->(d4F l ns w).2.1.length=ns.length+l.length:=by
 intro l
 induction l with
 |nil=>intro ns w _;rw[d4F];rfl
 |cons p r ih =>
  intro ns w
  rw[d6Q]
  split
  ·intro h;contradiction
  ·rename_i h0
   intro h
   rw[ih _ _ h,d6E (by simpa using h0)]
   simp;omega
theorem d6S (d:De) (r:List De) (ns:Ns) (w:Int):d4I (d::r) ns w=if (d4A d.name ⟨d.ty,false,0,0⟩ ns w).1≠0 then d4A d.name ⟨d.ty,false,0,0⟩ ns w else d4I r (d4A d.name ⟨d.ty,false,0,0⟩ ns w).2.1 (d4B d.ty (d4A d.name ⟨d.ty,false,0,0⟩ ns w).2.2):=by
 rw[d4I]
theorem d6T:∀ (l:List De) (ns:Ns) (w:Int),(d4I l ns w).1=0->(d4I l ns w).2.1.length=ns.length+l.length:=by
 intro l
 induction l with
 |nil=>intro ns w _;rw[d4I];rfl
 |cons p r ih =>
  intro ns w
  rw[d6S]
  split
  ·intro h;contradiction
  ·rename_i h0
   intro h
   rw[ih _ _ h,d6E (by simpa using h0)]
   simp;omega
theorem d6U (fs:Fs) (f:Fu) (w:Int) (hl:look f.name fs=none):d4G fs f w=if (d4F f.params [] w).1≠0 then ((d4F f.params [] w).1,fs,(d4F f.params [] w).2.2)
  else if (d4C fs f.body (d4F f.params [] w).2.1 (d4F f.params [] w).2.2).1≠0 then ((d4C fs f.body (d4F f.params [] w).2.1 (d4F f.params [] w).2.2).1,fs,(d4C fs f.body (d4F f.params [] w).2.1 (d4F f.params [] w).2.2).2.2)
  else if (exM fs (d4C fs f.body (d4F f.params [] w).2.1 (d4F f.params [] w).2.2).2.1 f.ret (d4C fs f.body (d4F f.params [] w).2.1 (d4F f.params [] w).2.2).2.2).1.2≠0 then ((exM fs (d4C fs f.body (d4F f.params [] w).2.1 (d4F f.params [] w).2.2).2.1 f.ret (d4C fs f.body (d4F f.params [] w).2.1 (d4F f.params [] w).2.2).2.2).1.2,fs,(exM fs (d4C fs f.body (d4F f.params [] w).2.1 (d4F f.params [] w).2.2).2.1 f.ret (d4C fs f.body (d4F f.params [] w).2.1 (d4F f.params [] w).2.2).2.2).2)
  else if d3K (exM fs (d4C fs f.body (d4F f.params [] w).2.1 (d4F f.params [] w).2.2).2.1 f.ret (d4C fs f.body (d4F f.params [] w).2.1 (d4F f.params [] w).2.2).2.2).1.1 f.res=false then (6,fs,(exM fs (d4C fs f.body (d4F f.params [] w).2.1 (d4F f.params [] w).2.2).2.1 f.ret (d4C fs f.body (d4F f.params [] w).2.1 (d4F f.params [] w).2.2).2.2).2) else (0,fs++[(f.name,f)],(exM fs (d4C fs f.body (d4F f.params [] w).2.1 (d4F f.params [] w).2.2).2.1 f.ret (d4C fs f.body (d4F f.params [] w).2.1 (d4F f.params [] w).2.2).2.2).2):=by
 unfold d4G
 rw[hl]
theorem d6V (fs:Fs) (f:Fu) (w:Int) {x:Fu} (hl:look f.name fs=some x):d4G fs f w=(5,fs,w):=by
 unfold d4G
 rw[hl]
theorem d6W (f:Fu) (r:List Fu) (fs:Fs) (w:Int):d4H (f::r) fs w=if (d4G fs f w).1≠0 then d4G fs f w else d4H r (d4G fs f w).2.1 (d4G fs f w).2.2:=by
 rw[d4H]
theorem d6X (p:Pg):d4J p=if (d4H p.funcs [] 0).1≠0 then ((d4H p.funcs [] 0).1,(d4H p.funcs [] 0).2.2)
  else if (d4I p.decls [] (d4H p.funcs [] 0).2.2).1≠0 then ((d4I p.decls [] (d4H p.funcs [] 0).2.2).1,(d4I p.decls [] (d4H p.funcs [] 0).2.2).2.2)
  else ((d4D (d4H p.funcs [] 0).2.1 p.body (d4I p.decls [] (d4H p.funcs [] 0).2.2).2.1 (d4I p.decls [] (d4H p.funcs [] 0).2.2).2.2).1,(d4D (d4H p.funcs [] 0).2.1 p.body (d4I p.decls [] (d4H p.funcs [] 0).2.2).2.1 (d4I p.decls [] (d4H p.funcs [] 0).2.2).2.2).2.2):=by
 unfold d4J
 rfl
end Go.Ky

/- KX 13: steps, in plain words. -/
namespace Go.Ky
open Go.Pi Go.Lx
mutual
def lkS:St->Bool
 |.mk k _ _ _ _ lo hi _ l=>if k=3 then decide (0<=lo)&&decide (lo<=hi)&&decide (hi<=1000000)&&d6Y l else true
def d6Y:List St->Bool
 |[]=>true
 |s::r=>lkS s&&d6Y r
end
theorem d6Z (l:List St):d6Y l=l.all lkS:=by
 induction l with
 |nil=>rfl
 |cons e r ih=>rw[d6Y,ih];rfl
theorem d7A (s:St):lkS s=if s.kind=3 then decide (0<=s.lo)&&decide (s.lo<=s.hi)&&decide (s.hi<=1000000)&&s.body.all lkS else true:=by
 cases s
 rw[lkS,d6Z];rfl
def KsB (ks:Ks):Prop:=∀ k,0<=d4K k ks/\d4K k ks<=20001
theorem KsB.nil:KsB []:=λk=>by unfold d4K look;simp
theorem d7B (k j:Nm) (n:Int) (ks:Ks):look j (d4P k n ks)=if j=k then some n else look j ks:=by
 induction ks with
 |nil=>simp only[d4P,look]
 |cons p r ih =>
  obtain⟨i,x⟩:=p
  simp only[d4P]
  split
  ·rename_i h
   subst h
   simp only[look]
   split <;> simp_all
  ·rename_i h
   simp only[look,ih]
   by_cases h1:j=i
   ·subst h1
    rw[if_pos rfl,if_pos rfl,if_neg (λe=>h e.symm)]
   ·rw[if_neg h1,if_neg h1]
theorem KsB.put {ks:Ks} (h:KsB ks) (k:Nm) {n:Int} (h0:0<=n) (h1:n<=20001):KsB (d4P k n ks):=λj=>by
 unfold d4K
 rw[d7B]
 split
 ·exact⟨h0,h1⟩
 ·exact h j
theorem d7C (x y:Int):mn x y<=x/\mn x y<=y:=by unfold mn;split <;> omega
theorem d7D {x y z:Int} (h1:z<=x) (h2:z<=y):z<=mn x y:=by unfold mn;split <;> omega
theorem d7E {ks:Ks}:∀ (l:List Exp),(∀ e,e∈l->0<=csE ks e/\csE ks e<=20001)->∀ n:Int,0<=n->n<=20002->0<=d4L ks l n/\d4L ks l n<=20002:=by
 intro l
 induction l with
 |nil=>intro _ n h0 h1;rw[d4L];exact⟨h0,h1⟩
 |cons e r ih =>
  intro h n h0 h1
  have he:=h e (by simp)
  rw[d4L]
  exact ih (λx hx=>h x (by simp [hx])) _ (d7D (by omega) (by omega)) (by have:=d7C 20001 (n+csE ks e);omega)
theorem d7F {ks:Ks} (hk:KsB ks):∀ e,0<=csE ks e/\csE ks e<=20001:=by
 refine Exp.ind λe ih=>?_
 rw[d4M]
 have hl:=hk e.name
 have:=d7E e.args ih (if e.op=5 then 1+d4K e.name ks else 0) (by split <;> omega) (by split <;> omega)
 exact⟨d7D (by omega) this.1,(d7C _ _).1⟩
theorem d7G {ks:Ks}:∀ (l:List St),(∀ s,s∈l->0<=bsS ks s)->∀ n:Int,0<=n->n<=20001->0<=d4N ks l n/\d4N ks l n<=20001:=by
 intro l
 induction l with
 |nil=>intro _ n h0 h1;rw[d4N];exact⟨h0,h1⟩
 |cons e r ih =>
  intro h n h0 h1
  have he:=h e (by simp)
  rw[d4N]
  exact ih (λx hx=>h x (by simp [hx])) _ (d7D (by omega) (by omega)) (d7C _ _).2
theorem d7H {a b:Int} (ha:0<=a) (ha2:a<=1000000) (hb:0<=b) (hb2:b<=20001):0<=a * b/\a * b<=20001000000:=by
 refine⟨Int.mul_nonneg ha hb,?_⟩
 have:=Int.mul_le_mul ha2 hb2 hb (by omega)
 omega
theorem d7I {ks:Ks} (hk:KsB ks):∀ s,lkS s=true->0<=bsS ks s/\bsS ks s<=20001000000:=by
 refine St.ind λs ih h=>?_
 rw[d4O]
 rw[d7A] at h
 split
 ·rename_i h3
  rw[if_pos h3] at h
  simp only[g4S,g7L,g5A] at h
  obtain⟨⟨⟨a,b⟩,c⟩,d⟩:=h
  have:=d7G s.body (λx hx=>(ih x hx (d x hx)).1) 0 (by omega) (by omega)
  exact d7H (by omega) (by omega) this.1 this.2
 ·have:=d7F hk s.ex
  omega
theorem d7J {x:Int} (h0:0<=x) (h1:x<=281474976710656):IntKind.wrap .i64 x=x:=IntWalk.i64_in _ (by omega)
theorem d7K (fs:Fs):∀ (l:List St),(∀ s,s∈l->∀ ns w,(stM fs s ns w).1=0->lkS s=true)->∀ ns w,(d4C fs l ns w).1=0->l.all lkS=true:=by
 intro l
 induction l with
 |nil=>intro _ _ _ _;rfl
 |cons s r ih =>
  intro h ns w
  rw[d6G]
  split
  ·intro h;contradiction
  ·rename_i h0
   intro h1
   rw[List.all_cons,h s (by simp) ns w (by simpa using h0),ih (λx hx=>h x (by simp [hx])) _ _ h1];rfl
theorem d7L (fs:Fs):∀ s,stB s=true->∀ ns w,(stM fs s ns w).1=0->lkS s=true:=by
 refine St.ind λs ih hB ns w=>?_
 rw[d7A]
 by_cases h3:s.kind=3
 ·rw[if_pos h3,d6J h3]
  rw[d2Z] at hB
  simp [h3] at hB
  obtain⟨⟨⟨_,hlo⟩,hhi⟩,hb⟩:=hB
  unfold d2V at hlo hhi
  simp at hlo hhi
  split
  ·intro h;cases h
  ·rename_i hlh
   split
   ·intro h;contradiction
   ·split
    ·intro h;contradiction
    ·rename_i hs
     intro _
     have:=d7K fs s.body (λx hx ns w=>ih x hx (hb x hx) ns w) _ _ (by simpa using hs)
     rw[this]
     simp
     omega
 ·rw[if_neg h3];intro _;rfl
theorem d7M {fs:Fs} {f:Fu} {w:Int} (hB:fuB f=true) (h:(d4G fs f w).1=0):f.body.all lkS=true:=by
 unfold fuB at hB
 simp only[g4S,g5A] at hB
 cases hl:look f.name fs with
 |some x=>rw[d6V _ _ _ hl] at h;cases h
 |none =>
  rw[d6U _ _ _ hl] at h
  split at h
  ·contradiction
  ·split at h
   ·contradiction
   ·rename_i h2
    exact d7K fs f.body (λs hs ns w=>d7L fs s (hB.1.2 s hs) ns w) _ _ (by simpa using h2)
theorem d7N:∀ (l:List Fu) (fs:Fs) (w:Int),l.all fuB=true->(d4H l fs w).1=0->∀ f,f∈l->f.body.all lkS=true:=by
 intro l
 induction l with
 |nil=>intro _ _ _ _ f hf;cases hf
 |cons x r ih =>
  intro fs w hB
  rw[List.all_cons,g4S] at hB
  rw[d6W]
  split
  ·intro h;contradiction
  ·rename_i h0
   intro h f hf
   rcases g6H.1 hf with e|e
   ·subst e;exact d7M hB.1 (by simpa using h0)
   ·exact ih _ _ hB.2 h f e
theorem d7O {p:Pg} (hf:p.funcs.all fuB=true) (hb:p.body.all stB=true) (h:(d4J p).1=0):(∀ f,f∈p.funcs->f.body.all lkS=true)/\p.body.all lkS=true:=by
 rw[d6X] at h
 split at h
 ·contradiction
 ·rename_i h0
  split at h
  ·contradiction
  ·refine⟨d7N p.funcs [] 0 hf (by simpa using h0),?_⟩
   rw[d6I] at h
   simp only at h
   split at h
   ·contradiction
   ·rename_i h1
    exact d7K _ p.body (λs hs ns w=>d7L _ s (g5A.1 hb s hs) ns w) _ _ (by simpa using h1)
end Go.Ky

/- KX 14: what the laws ask, in plain words. -/
namespace Go.Ky
open Go.Pi Go.Lx
mutual
def szM:Exp->Int->Int
 |.mk _ _ _ _ l,lim=>d7P l lim 1
def d7P:List Exp->Int->Int->Int
 |[],_,n=>n
 |e::r,lim,n=>if n<=lim then d7P r lim (IntKind.i64.wrap (n+szM e (IntKind.i64.wrap (lim - n)))) else n
end
theorem d7Q (e:Exp) (lim:Int):szM e lim=d7P e.args lim 1:=by cases e;rw[szM];rfl
mutual
def am1:St->Int->Int
 |.mk _ _ _ _ e _ _ _ l,lim=>IntKind.i64.wrap (IntKind.i64.wrap (1+szM e lim)+d7R l lim 0)
def d7R:List St->Int->Int->Int
 |[],_,n=>n
 |s::r,lim,n=>if n<=lim then d7R r lim (IntKind.i64.wrap (n+am1 s lim)) else n
end
theorem d7S (s:St) (lim:Int):am1 s lim=IntKind.i64.wrap (IntKind.i64.wrap (1+szM s.ex lim)+d7R s.body lim 0):=by cases s;rw[am1];rfl
def d7T:List Fu->Nat->Int->Int
 |[],_,n=>n
 |f::r,i,n=>if i < 20/\n<=400 then d7T r (i+1) (IntKind.i64.wrap (n+IntKind.i64.wrap (IntKind.i64.wrap (d7R f.body 400 0+szM f.ret 400)+f.params.length))) else n
def d7U (p:Pg):Bool:=decide (d7T p.funcs 0 (d7R p.body 400 0)<=400)&&(decide ((p.funcs.length:Int)<=10)&&decide ((p.decls.length:Int)<=20))
def d7V:List De->Int->Int->Int×Int
 |[],a,b=>(a,b)
 |d::r,a,b=>if d.pub then d7V r (IntKind.i64.wrap (a+mx d.ty.len 1)) b else d7V r a (IntKind.i64.wrap (b+mx d.ty.len 1))
def d7W (p:Pg):Int×Int:=if (d4S p).2.2≠0 then (0,0) else d7V p.decls 0 0
def fieldB (n:Int):Bool:=decide (n=18446744069414584321) || decide (n=17) || decide (n=97) || decide (n=193) || decide (n=257) || decide (n=12289) || decide (n=65537)
end Go.Ky

/- KX 15: a few programs, by hand. -/
namespace Go.Ky
open Go.Pi Go.Lx
def d7X (n:Int):Bool:=decide (-9223372036854775808<=n)&&decide (n<=9223372036854775807)
def d7Y (n:Int):Bool:=decide (0<=n)&&decide (n<=18446744073709551615)
mutual
def okE:Exp->Bool
 |.mk o v n b l=>d7X o&&d7Y v&&decide (n.length<=1000)&&decide (l.length<=1000)&&(!b || l.isEmpty)&&d7Z l
def d7Z:List Exp->Bool
 |[]=>true
 |e::r=>okE e&&d7Z r
end
mutual
def okS:St->Bool
 |.mk k n _ t e lo hi b l=>d7X k&&decide (n.length<=1000)&&d7X t.kind&&d7X t.bits&&d7X t.len&&okE e&&d7X lo&&d7X hi&&decide (l.length<=1000)&&(!b || l.isEmpty)&&d8A l
def d8A:List St->Bool
 |[]=>true
 |s::r=>okS s&&d8A r
end
theorem d8B {n:Int} (h:d7X n=true):I64 n:=by unfold d7X at h;simp at h;exact h
theorem d8C {n:Int} (h:d7Y n=true):U64 n:=by unfold d7Y at h;simp at h;exact h
theorem d8D (l:List Exp):d7Z l=l.all okE:=by
 induction l with
 |nil=>rfl
 |cons e r ih=>rw[d7Z,ih];rfl
theorem d8E (l:List St):d8A l=l.all okS:=by
 induction l with
 |nil=>rfl
 |cons e r ih=>rw[d8A,ih];rfl
theorem d8F:∀ e,okE e=true->ExpOk e:=by
 refine Exp.ind λe ih h=>?_
 cases e with|mk o v n b l =>
 rw[okE,d8D] at h
 simp only[g4S,g7L] at h
 obtain⟨⟨⟨⟨⟨h1,h2⟩,h3⟩,h4⟩,h5⟩,h6⟩:=h
 have hb:B47=140737488355328:=rfl
 refine .mk _ (d8B h1) (d8C h2) (by show n.length<=_;omega) (by show l.length<=_;omega) ?_ λa ha=>ih a ha (g5A.1 h6 a ha)
 intro hbt
 have:b=true:=hbt
 subst this
 have h5:l=[]:=by simpa using h5
 exact h5
theorem d8G:∀ s,okS s=true->StOk s:=by
 refine St.ind λs ih h=>?_
 cases s with|mk k n b t e lo hi nl l =>
 rw[okS,d8E] at h
 simp only[g4S,g7L] at h
 obtain⟨⟨⟨⟨⟨⟨⟨⟨⟨⟨h1,h2⟩,h3⟩,h4⟩,h5⟩,h6⟩,h7⟩,h8⟩,h9⟩,h10⟩,h11⟩:=h
 have hb:B47=140737488355328:=rfl
 refine .mk _ (d8B h1) (by show n.length<=_;omega) ⟨d8B h3,d8B h4,d8B h5⟩ (d8F _ h6) (d8B h7) (d8B h8) (by show l.length<=_;omega) ?_ λa ha=>ih a ha (g5A.1 h11 a ha)
 intro hbt
 have:nl=true:=hbt
 subst this
 have h10:l=[]:=by simpa using h10
 exact h10
theorem d8H {p:Pg} (hf:p.funcs=[]) (h1:p.decls.all (λd=>decide (d.name.length<=1000)&&d7X d.ty.kind&&d7X d.ty.bits&&d7X d.ty.len)=true) (h2:p.body.all okS=true) (h3:p.decls.length<=1000) (h4:p.body.length<=1000) (h5:p.dnl=true->p.decls=[]) (h6:p.bnl=true->p.body=[]):PgOk p:=by
 have hb:B47=140737488355328:=rfl
 refine⟨by rw[hf];simp,λ_=>hf,λf hf'=>(by rw[hf] at hf';cases hf'),by omega,h5,λd hd=>?_,by omega,h6,λs hs=>d8G s (g5A.1 h2 s hs)⟩
 have:=g5A.1 h1 d hd
 simp only[g4S,g7L] at this
 exact⟨by omega,d8B this.1.1.2,d8B this.1.2,d8B this.2⟩
end Go.Ky

/- KX 16: the plain laws: a prefix; a further statement; the order of errors. -/
namespace Go.Ky
open Go.Pi Go.Lx
theorem valid_zero {p:Pg}:d3J p=0↔p.funcs.all fuB=true/\p.decls.all deB=true/\p.body.all stB=true/\p.funcs.all shF=true/\p.body.all shS=true:=by
 unfold d3J
 cases p.funcs.all fuB <;> cases p.decls.all deB <;> cases p.body.all stB <;> cases p.funcs.all shF <;> cases p.body.all shS <;> simp
theorem exam_ok {p:Pg}:(d4S p).2.2=0↔d3J p=0/\(d4J p).1=0/\d4R p<=20000:=by
 unfold d4S
 by_cases h1:d3J p=0
 ·rw[if_neg (by simpa using h1)]
  simp only
  by_cases h2:(d4J p).1=0
  ·rw[if_neg (by simpa using h2)]
   by_cases h3:d4R p > 20000
   ·rw[if_pos h3];simp;omega
   ·rw[if_neg h3];simp [h1,h2];omega
  ·rw[if_pos (by simpa using h2)];simp [h2]
 ·rw[if_pos (by simpa using h1)];simp [h1]
theorem d8I {p:Pg} (h:(d4S p).2.2=0):d4S p=((d4J p).2,d4R p,0):=by
 obtain⟨h1,h2,h3⟩:=exam_ok.1 h
 unfold d4S
 rw[if_neg (by simpa using h1)]
 simp only
 rw[if_neg (by simpa using h2),if_neg (by omega)]
theorem prog_ok {p:Pg}:(d4J p).1=0↔(d4H p.funcs [] 0).1=0/\(d4I p.decls [] (d4H p.funcs [] 0).2.2).1=0/\(d4C (d4H p.funcs [] 0).2.1 p.body (d4I p.decls [] (d4H p.funcs [] 0).2.2).2.1 (d4I p.decls [] (d4H p.funcs [] 0).2.2).2.2).1=0:=by
 rw[d6X,d6I]
 by_cases h1:(d4H p.funcs [] 0).1=0
 ·rw[if_neg (by simpa using h1)]
  by_cases h2:(d4I p.decls [] (d4H p.funcs [] 0).2.2).1=0
  ·rw[if_neg (by simpa using h2)]
   simp only
   split
   ·rename_i h3;simp only[h1,h2,true_and]
   ·rename_i h3;simp only[h1,h2,true_and];simpa using h3
  ·rw[if_pos (by simpa using h2)];simp [h2]
 ·rw[if_pos (by simpa using h1)];simp [h1]
theorem d8J {p:Pg} (h:(d4J p).1=0):(d4J p).2=(d4C (d4H p.funcs [] 0).2.1 p.body (d4I p.decls [] (d4H p.funcs [] 0).2.2).2.1 (d4I p.decls [] (d4H p.funcs [] 0).2.2).2.2).2.2:=by
 obtain⟨h1,h2,h3⟩:=prog_ok.1 h
 rw[d6X,d6I,if_neg (by simpa using h1),if_neg (by simpa using h2),if_neg (by simpa using h3)]
end Go.Ky

/- KX 17: a program's statements, cut and put together. -/
namespace Go.Ky
open Go.Pi Go.Lx
end Go.Ky

/- KX 18: a program that is read: its parts' sizes. -/
namespace Go.Ky
open Go.Pi Go.Lx
theorem d8K {α:Type} {enc:α->List T} {l:List α} {x:α} (h:x∈l):b2R (enc x)<=b2Q (l.map enc):=by
 induction l with
 |nil=>cases h
 |cons y r ih =>
  show b2R (enc x)<=b2R (enc y)+b2Q (r.map enc)
  rcases g6H.1 h with e|e
  ·subst e;omega
  ·have:=ih e;omega
theorem d8L {α:Type} {enc:α->List T} (he:∀ x,1<=b2R (enc x)) (l:List α):l.length<=b2Q (l.map enc):=by
 induction l with
 |nil=>exact g7B _
 |cons y r ih =>
  show r.length+1<=b2R (enc y)+b2Q (r.map enc)
  have:=he y
  omega
theorem d8M (f:Fu):b2R (tFu f)=f.name.length+1+(b2Q (f.params.map tPa)+1)+3+(d2G f.body+1)+szE f.ret:=by
 rw[d2H]
 unfold d2G d2F
 simp only[b2R,tBk]
 omega
theorem d8N (p:Pg):b2R (tPg p)=(b2Q (p.funcs.map tFu)+1)+(b2Q (p.decls.map tDe)+1)+(d2G p.body+1):=by
 unfold d2G
 simp only[b2R,tBk]
 omega
theorem d8O {p:Pg} {M:Nat} (h:b2R (tPg p)<=M):p.funcs.length<=M/\p.decls.length<=M/\(∀ f,f∈p.funcs->f.params.length<=M/\d2G f.body<=M/\szE f.ret<=M)/\d2G p.body<=M:=by
 rw[d8N] at h
 have h1:=d8L (enc:=tFu) (λx=>by rw[d8M];omega) p.funcs
 have h2:=d8L (enc:=tDe) (λx=>by simp only[b2R,tBk];omega) p.decls
 refine⟨by omega,by omega,λf hf=>?_,by omega⟩
 have h3:=d8K (enc:=tFu) hf
 rw[d8M] at h3
 have h4:=d8L (enc:=tPa) (λx=>by simp only[b2R,tBk];omega) f.params
 exact⟨by omega,by omega,by omega⟩
end Go.Ky

/- KX 19: the reference's depth, in plain words. -/
namespace Go.Ky
open Go.Pi Go.Lx
mutual
def dpS:St->Nat->Bool
 |.mk k _ _ _ e _ _ _ l,lim=>decide (lim=0) || ((decide (k≠3)&&decide ((dEx e:Int) > 40)) || d8P l (lim - 1))
def d8P:List St->Nat->Bool
 |[],_=>false
 |s::r,lim=>dpS s lim || d8P r lim
end
theorem d8Q (s:St) (lim:Nat):dpS s lim=(decide (lim=0) || ((decide (s.kind≠3)&&decide ((dEx s.ex:Int) > 40)) || d8P s.body (lim - 1))):=by
 cases s
 rw[dpS];rfl
def fmB (f:Fu):Bool:=f.params.all paB&&(d2Q f.name&&(tyB f.res&&(f.body.all stB&&exB f.ret)))
theorem d8R (f:Fu):fmB f=fuB f:=by
 unfold fmB fuB
 cases d2Q f.name <;> cases f.params.all paB <;> cases tyB f.res <;> cases f.body.all stB <;> simp
def dpF (f:Fu):Bool:=d8P f.body 40 || decide ((dEx f.ret:Int) > 40)
def rvP (p:Pg):Int:=if p.funcs.all fmB=false then 1 else if p.decls.all deB=false then 1 else if p.body.all stB=false then 1 else if p.funcs.any dpF=true then 3 else if d8P p.body 40=true then 3 else 0
end Go.Ky
