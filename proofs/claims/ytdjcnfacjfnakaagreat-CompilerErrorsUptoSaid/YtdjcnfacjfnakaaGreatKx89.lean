/- KX 82: the compiler as a model: linear combinations, the builder of circuits. -/
import Derived.Test.YtdjcnfacjfnakaaGreatKx80
import Derived.Test.YtdjcnfacjfnakaaGreatKx80
import Derived.Test.YtdjcnfacjfnakaaGreatKx81
set_option linter.unusedSimpArgs false
set_option linter.unusedVariables false
namespace Go.Ky
open Go.Pi Go.Lx
structure Fo where
 p:Int
 red:Int->Int
 neg:Int->Int
 add:Int->Int->Int
 mul:Int->Int->Int
 ex:Int
 pc:Int->Int->Int
structure Li where
 nl:Bool
 ts:List (Int×Int)
def f0E:Li:=⟨true,[]⟩
def f0F (Φ:Fo) (v n:Int):Li:=if Φ.red n=0 then f0E else ⟨false,[(v,Φ.red n)]⟩
def f0G (Φ:Fo) (n:Int):Li:=f0F Φ 0 n
def f0H (Φ:Fo) (v:Int):Li:=f0F Φ v 1
def f0I (Φ:Fo):Li:=f0H Φ 0
def f0J (t:Int×Int) (r:List (Int×Int)):List (Int×Int):=if t.2=0 then r else t::r
def f0K (Φ:Fo) (n:Int):Nat->List (Int×Int)->List (Int×Int)->List (Int×Int)
 |0,_,_=>[]
 |_+1,[],[]=>[]
 |k+1,a::x,[]=>f0J a (f0K Φ n k x [])
 |k+1,[],b::y=>f0J (b.1,Φ.mul n b.2) (f0K Φ n k [] y)
 |k+1,a::x,b::y=>if a.1 < b.1 then f0J a (f0K Φ n k x (b::y)) else if b.1 < a.1 then f0J (b.1,Φ.mul n b.2) (f0K Φ n k (a::x) y) else f0J (a.1,Φ.add a.2 (Φ.mul n b.2)) (f0K Φ n k x y)
def f0L (Φ:Fo) (x y:Li) (n:Int):Li:=⟨false,f0K Φ n (x.ts.length+y.ts.length) x.ts y.ts⟩
def f0M (Φ:Fo) (x y:Li):Li:=f0L Φ x y 1
def f0N (Φ:Fo) (x y:Li):Li:=f0L Φ x y (Φ.neg 1)
def f0O (Φ:Fo) (x:Li) (n:Int):Li:=f0L Φ f0E x n
structure Rw where
 a:Li
 b:Li
 c:Li
structure Ht where
 kind:Int
 a:Li
 b:Li
 bit:Int
structure Bd where
 pub:Int
 sec:Int
 vars:Int
 rows:List Rw
 hints:List Ht
def f0P (Φ:Fo) (h:Ht) (b:Bd):Li×Bd:=(f0H Φ b.vars,⟨b.pub,b.sec,b.vars+1,b.rows,b.hints++[h]⟩)
def f0Q (x y z:Li) (b:Bd):Bd:=⟨b.pub,b.sec,b.vars,b.rows++[⟨x,y,z⟩],b.hints⟩
def f0R (Φ:Fo) (x y:Li) (b:Bd):Li×Bd:=((f0P Φ ⟨1,x,y,0⟩ b).1,f0Q x y (f0P Φ ⟨1,x,y,0⟩ b).1 (f0P Φ ⟨1,x,y,0⟩ b).2)
def f0S (Φ:Fo) (x y:Li) (b:Bd):Bd:=f0Q (f0N Φ x y) (f0I Φ) f0E b
def f0T (x:Li) (b:Bd):Bd:=f0Q x x x b
def f0U (Φ:Fo) (x:Li):Nat->Int->List Li->List (Int×Int)->Bd->List Li×List (Int×Int)×Bd
 |0,_,ls,ts,b=>(ls,ts,b)
 |k+1,i,ls,ts,b =>
  let q:=f0P Φ ⟨3,x,f0E,i⟩ b
  f0U Φ x k (i+1) (ls++[q.1]) (ts++[(b.vars,Φ.red (IntKind.u64.wrap (1 * 2 ^ min i.toNat IntKind.u64.bits)))]) (f0T q.1 q.2)
def f0V (Φ:Fo) (x:Li) (n:Int) (b:Bd):List Li×Bd :=
 if n < 0\/62 < n then ([],b) else
  let q:=f0U Φ x n.toNat 0 [] [] b
  (q.1,f0S Φ ⟨false,q.2.1⟩ x q.2.2)
def f0W (Φ:Fo) (x:Li):Li:=f0N Φ (f0I Φ) x
def f0X (Φ:Fo) (x:Li) (b:Bd):Li×Bd :=
 let v:=f0P Φ ⟨2,x,f0E,0⟩ b
 let m:=f0R Φ x v.1 v.2
 let z:=f0W Φ m.1
 (z,f0Q v.1 z f0E (f0Q x z f0E m.2))
def eqB (Φ:Fo) (x y:Li) (b:Bd):Li×Bd:=f0X Φ (f0N Φ x y) b
def orB (Φ:Fo) (x y:Li) (b:Bd):Li×Bd:=let m:=f0R Φ x y b;(f0N Φ (f0M Φ x y) m.1,m.2)
def f0Y (Φ:Fo) (c x y:Li) (b:Bd):Li×Bd:=let m:=f0R Φ c (f0N Φ x y) b;(f0M Φ y m.1,m.2)
def f0Z (Φ:Fo) (x y:Li) (n:Int) (b:Bd):Li×Bd :=
 if n < 0\/62<=n then (f0E,b) else
  let q:=f0V Φ (f0N Φ (f0M Φ (f0G Φ (IntKind.u64.wrap (1 * 2 ^ min n.toNat IntKind.u64.bits))) x) y) (n+1) b
  (f0W Φ (q.1.getD n.toNat f0E),q.2)
def f1A (Φ:Fo) (x:Li) (b:Bd):Li×Bd :=
 let a:=f0R Φ x x b
 let a:=if Φ.ex=5 then f0R Φ a.1 a.1 a.2 else if Φ.ex=7 then (let c:=f0R Φ a.1 x a.2;f0R Φ c.1 c.1 c.2) else a
 f0R Φ a.1 x a.2
abbrev Tr:=Li×Li×Li
def f1B (Φ:Fo) (r:Int) (s:Tr) (b:Bd):Tr×Bd :=
 let s0:=f0M Φ s.1 (f0G Φ (Φ.pc r 0))
 let s1:=f0M Φ s.2.1 (f0G Φ (Φ.pc r 1))
 let s2:=f0M Φ s.2.2 (f0G Φ (Φ.pc r 2))
 let a:=f1A Φ s0 b
 let c:=f1A Φ s1 a.2
 let d:=f1A Φ s2 c.2
 let m:=f0M Φ (f0M Φ a.1 c.1) d.1
 ((f0M Φ a.1 m,f0M Φ c.1 m,f0M Φ d.1 m),d.2)
def f1C (Φ:Fo):Nat->Int->Tr->Bd->Tr×Bd
 |0,_,s,b=>(s,b)
 |k+1,r,s,b=>f1C Φ k (r+1) (f1B Φ r s b).1 (f1B Φ r s b).2
def f1D (Φ:Fo):List Li->Tr->Bd->Tr×Bd
 |[],s,b=>(s,b)
 |[x],s,b=>f1C Φ 8 0 (f0M Φ s.1 x,s.2.1,s.2.2) b
 |x::y::r,s,b=>f1D Φ r (f1C Φ 8 0 (f0M Φ s.1 x,f0M Φ s.2.1 y,s.2.2) b).1 (f1C Φ 8 0 (f0M Φ s.1 x,f0M Φ s.2.1 y,s.2.2) b).2
def f1E (Φ:Fo) (label:Int) (l:List Li) (b:Bd):Li×Bd :=
 let s:Tr:=(f0E,f0E,f0G Φ (Φ.add (Φ.mul label 65536) l.length))
 let q:=match l with
  |[]=>f1C Φ 8 0 s b
  |_=>f1D Φ l s b
 (q.1.1,q.2)
end Go.Ky

/- KX 83: linear combinations stay in order; what a gadget adds to a builder. -/
namespace Go.Ky
open Go.Pi Go.Lx
structure Fo.Nn (Φ:Fo):Prop where
 red:∀ a,0<=a->0<=Φ.red a
 neg:∀ a,0<=a->0<=Φ.neg a
 add:∀ a b,0<=a->0<=b->0<=Φ.add a b
 mul:∀ a b,0<=a->0<=b->0<=Φ.mul a b
 pc:∀ r i,0<=Φ.pc r i
def Inc:Int->Int->List (Int×Int)->Prop
 |_,_,[]=>True
 |lo,n,t::r=>lo<=t.1/\t.1 < n/\0<=t.2/\Inc (t.1+1) n r
theorem Inc.mono {n n':Int} (hn:n<=n'):∀ {l:List (Int×Int)} {lo lo':Int},lo'<=lo->Inc lo n l->Inc lo' n' l
 |[],_,_,_,_=>True.intro
 |t::r,lo,lo',h,⟨h1,h2,h3,h4⟩=>⟨by omega,by omega,h3,h4.mono hn (Int.le_refl _)⟩
theorem Inc.len:∀ {l:List (Int×Int)} {lo n:Int},lo<=n->Inc lo n l->lo+l.length<=n
 |[],lo,n,h,_=>by simp;omega
 |t::r,lo,n,h,⟨h1,h2,h3,h4⟩=>by
  have:=h4.len (by omega)
  simp only[g5X]
  omega
theorem Inc.keep {lo n:Int} {t:Int×Int} {r:List (Int×Int)} (h:Inc lo n (t::r)):Inc lo n (f0J t r):=by
 unfold f0J
 split
 ·exact h.2.2.2.mono (Int.le_refl _) (by have:=h.1;omega)
 ·exact h
theorem Inc.comb {Φ:Fo} (hΦ:Φ.Nn) {c n:Int} (hc:0<=c):∀ (k:Nat) (x y:List (Int×Int)) (lo:Int),Inc lo n x->Inc lo n y->Inc lo n (f0K Φ c k x y):=by
 intro k
 induction k with
 |zero=>intro x y lo _ _;rw[f0K];exact True.intro
 |succ k ih =>
  intro x y lo hx hy
  match x,y with
  |[],[]=>rw[f0K];exact True.intro
  |a::x,[]=>rw[f0K];exact Inc.keep ⟨hx.1,hx.2.1,hx.2.2.1,ih _ _ _ hx.2.2.2 True.intro⟩
  |[],b::y=>rw[f0K];exact Inc.keep ⟨hy.1,hy.2.1,hΦ.mul _ _ hc hy.2.2.1,ih _ _ _ True.intro hy.2.2.2⟩
  |a::x,b::y =>
   obtain⟨a1,a2,a3,a4⟩:=hx
   obtain⟨b1,b2,b3,b4⟩:=hy
   rw[f0K]
   split
   ·rename_i h
    exact Inc.keep ⟨a1,a2,a3,ih _ _ _ a4 ⟨by omega,b2,b3,b4⟩⟩
   ·split
    ·rename_i h
     exact Inc.keep ⟨b1,b2,hΦ.mul _ _ hc b3,ih _ _ _ ⟨by omega,a2,a3,a4⟩ b4⟩
    ·have e:a.1=b.1:=by omega
     exact Inc.keep ⟨a1,a2,hΦ.add _ _ a3 (hΦ.mul _ _ hc b3),ih _ _ _ a4 (by rw[e];exact b4)⟩
def LiOk (n:Int) (l:Li):Prop:=Inc 0 n l.ts/\(l.nl=true->l.ts=[])
theorem LiOk.mono {n n':Int} (h:n<=n') {l:Li} (hl:LiOk n l):LiOk n' l:=⟨hl.1.mono h (Int.le_refl _),hl.2⟩
theorem LiOk.len {n:Int} {l:Li} (h:LiOk n l) (hn:0<=n):(l.ts.length:Int)<=n:=by have:=h.1.len hn;omega
theorem LiOk.nil (n:Int):LiOk n f0E:=⟨True.intro,λ_=>rfl⟩
theorem LiOk.term {Φ:Fo} (hΦ:Φ.Nn) {n v c:Int} (h0:0<=v) (h:v < n) (hc:0<=c):LiOk n (f0F Φ v c):=by
 unfold f0F
 split
 ·exact .nil n
 ·exact⟨⟨h0,h,hΦ.red _ hc,True.intro⟩,λh=>by cases h⟩
theorem LiOk.const {Φ:Fo} (hΦ:Φ.Nn) {n c:Int} (h:0 < n) (hc:0<=c):LiOk n (f0G Φ c):=.term hΦ (Int.le_refl _) h hc
theorem LiOk.comb {Φ:Fo} (hΦ:Φ.Nn) {n c:Int} (hc:0<=c) {x y:Li} (hx:LiOk n x) (hy:LiOk n y):LiOk n (f0L Φ x y c):=⟨Inc.comb hΦ hc _ _ _ _ hx.1 hy.1,λh=>by cases h⟩
theorem LiOk.add {Φ:Fo} (hΦ:Φ.Nn) {n:Int} {x y:Li} (hx:LiOk n x) (hy:LiOk n y):LiOk n (f0M Φ x y):=.comb hΦ (by decide) hx hy
theorem LiOk.sub {Φ:Fo} (hΦ:Φ.Nn) {n:Int} {x y:Li} (hx:LiOk n x) (hy:LiOk n y):LiOk n (f0N Φ x y):=.comb hΦ (hΦ.neg _ (by decide)) hx hy
theorem LiOk.var {Φ:Fo} (hΦ:Φ.Nn) {n v:Int} (h0:0<=v) (h:v < n):LiOk n (f0H Φ v):=.term hΦ h0 h (by decide)
theorem LiOk.not {Φ:Fo} (hΦ:Φ.Nn) {n:Int} (h:0 < n) {x:Li} (hx:LiOk n x):LiOk n (f0W Φ x):=.sub hΦ (.var hΦ (Int.le_refl _) h) hx
structure BdOk (b:Bd):Prop where
 pub:0<=b.pub
 sec:0<=b.sec
 most:b.pub+b.sec<=65535
 vars:b.vars=1+b.pub+b.sec+b.hints.length
theorem BdOk.pos {b:Bd} (h:BdOk b):0 < b.vars:=by have:=h.pub;have:=h.sec;have:=h.vars;omega
def Rm (b:Bd) (k:Int):Prop:=b.vars+k<=1000000/\(b.rows.length:Int)+k<=1000000
structure Stp (b b':Bd) (r h:Int):Prop where
 pub:b'.pub=b.pub
 sec:b'.sec=b.sec
 vars:b'.vars=b.vars+h
 rows:(b'.rows.length:Int)=b.rows.length+r
 hints:(b'.hints.length:Int)=b.hints.length+h
 r0:0<=r
 h0:0<=h
theorem Stp.refl (b:Bd):Stp b b 0 0:=⟨rfl,rfl,by omega,by omega,by omega,by decide,by decide⟩
theorem Stp.trans {a b c:Bd} {r h r' h':Int} (x:Stp a b r h) (y:Stp b c r' h'):Stp a c (r+r') (h+h') :=
 ⟨y.pub.trans x.pub,y.sec.trans x.sec,by have:=x.vars;have:=y.vars;omega,by have:=x.rows;have:=y.rows;omega,by have:=x.hints;have:=y.hints;omega,by have:=x.r0;have:=y.r0;omega,by have:=x.h0;have:=y.h0;omega⟩
theorem Stp.eq {a b:Bd} {r h r' h':Int} (x:Stp a b r h) (e:r=r') (e':h=h'):Stp a b r' h':=e ▸ e' ▸ x
theorem Stp.ok {b b':Bd} {r h:Int} (x:Stp b b' r h) (hb:BdOk b):BdOk b' :=
 ⟨by rw[x.pub];exact hb.pub,by rw[x.sec];exact hb.sec,by rw[x.pub,x.sec];exact hb.most,by rw[x.pub,x.sec];have:=x.vars;have:=hb.vars;have:=x.hints;omega⟩
theorem Stp.rm {b b':Bd} {r h m:Int} (k:Int) (x:Stp b b' r h) (hm:Rm b m) (h1:r+k<=m) (h2:h+k<=m):Rm b' k:=by
 have:=x.vars;have:=x.rows
 exact⟨by have:=hm.1;omega,by have:=hm.2;omega⟩
theorem Rm.le {b:Bd} {k k':Int} (h:Rm b k) (hk:k'<=k):Rm b k':=⟨by have:=h.1;omega,by have:=h.2;omega⟩
theorem Stp.le {b b':Bd} {r h:Int} (x:Stp b b' r h):b.vars<=b'.vars:=by have:=x.vars;have:=x.h0;omega
theorem f1F (x y z:Li) (b:Bd):Stp b (f0Q x y z b) 1 0:=⟨rfl,rfl,by simp [f0Q],by simp [f0Q],by simp [f0Q],by decide,by decide⟩
theorem f1G (Φ:Fo) (x:Ht) (b:Bd):Stp b (f0P Φ x b).2 0 1:=⟨rfl,rfl,rfl,by simp [f0P],by simp [f0P],by decide,by decide⟩
theorem f1H (Φ:Fo) (x y:Li) (b:Bd):Stp b (f0R Φ x y b).2 1 1:=(f1G Φ _ b).trans (f1F _ _ _ _)
theorem f1I (Φ:Fo) (x y:Li) (b:Bd):Stp b (f0S Φ x y b) 1 0:=f1F _ _ _ _
theorem f1J (x:Li) (b:Bd):Stp b (f0T x b) 1 0:=f1F _ _ _ _
theorem f1K (Φ:Fo) (x:Li):∀ (k:Nat) (i:Int) (ls:List Li) (ts:List (Int×Int)) (b:Bd),Stp b (f0U Φ x k i ls ts b).2.2 k k
 |0,i,ls,ts,b=>by rw[f0U];exact .refl b
 |k+1,i,ls,ts,b=>by
  rw[f0U]
  exact(((f1G Φ _ b).trans (f1J _ _)).trans (f1K Φ x k _ _ _ _)).eq (by omega) (by omega)
theorem f1L (Φ:Fo) (x:Li) {n:Int} (h0:0<=n) (h1:n<=62) (b:Bd):Stp b (f0V Φ x n b).2 (n+1) n:=by
 unfold f0V
 rw[if_neg (by omega)]
 exact((f1K Φ x n.toNat 0 [] [] b).trans (f1I Φ _ _ _)).eq (by omega) (by omega)
theorem f1M (Φ:Fo) (x:Li) (b:Bd):Stp b (f0X Φ x b).2 3 2 :=
 (((f1G Φ _ b).trans (f1H Φ _ _ _)).trans ((f1F _ _ _ _).trans (f1F _ _ _ _))).eq (by decide) (by decide)
theorem f1N (Φ:Fo) (x y:Li) {n:Int} (h0:0<=n) (h1:n < 62) (b:Bd):Stp b (f0Z Φ x y n b).2 (n+2) (n+1):=by
 unfold f0Z
 rw[if_neg (by omega)]
 exact(f1L Φ _ (by omega) (by omega) b).eq (by omega) rfl
def f1O (e:Int):Int:=if e=5 then 3 else if e=7 then 4 else 2
theorem f1P (e:Int):2<=f1O e/\f1O e<=4:=by
 unfold f1O
 split
 ·decide
 ·split <;> decide
theorem f1Q (Φ:Fo) (x:Li) (b:Bd):Stp b (f1A Φ x b).2 (f1O Φ.ex) (f1O Φ.ex):=by
 unfold f1A f1O
 simp only
 split
 ·exact(((f1H Φ _ _ b).trans (f1H Φ _ _ _)).trans (f1H Φ _ _ _)).eq (by decide) (by decide)
 ·split
  ·exact((((f1H Φ _ _ b).trans (f1H Φ _ _ _)).trans (f1H Φ _ _ _)).trans (f1H Φ _ _ _)).eq (by decide) (by decide)
  ·exact((f1H Φ _ _ b).trans (f1H Φ _ _ _)).eq (by decide) (by decide)
theorem f1R (Φ:Fo) (r:Int) (s:Tr) (b:Bd):Stp b (f1B Φ r s b).2 (3 * f1O Φ.ex) (3 * f1O Φ.ex) :=
 (((f1Q Φ _ b).trans (f1Q Φ _ _)).trans (f1Q Φ _ _)).eq (by omega) (by omega)
theorem f1S (Φ:Fo):∀ (k:Nat) (r:Int) (s:Tr) (b:Bd),Stp b (f1C Φ k r s b).2 (k * (3 * f1O Φ.ex)) (k * (3 * f1O Φ.ex))
 |0,r,s,b=>by rw[f1C];exact(Stp.refl b).eq (by simp) (by simp)
 |k+1,r,s,b=>by
  rw[f1C]
  have e:((k+1:Nat):Int) * (3 * f1O Φ.ex)=3 * f1O Φ.ex+k * (3 * f1O Φ.ex):=by
   rw[Int.natCast_add,Int.add_mul];omega
  exact((f1R Φ r s b).trans (f1S Φ k _ _ _)).eq e.symm e.symm
def f1T (e:Int) (n:Nat):Int:=((n+1) / 2:Nat) * (24 * f1O e)
theorem f1U (Φ:Fo):∀ (l:List Li) (s:Tr) (b:Bd),Stp b (f1D Φ l s b).2 (f1T Φ.ex l.length) (f1T Φ.ex l.length)
 |[],s,b=>by rw[f1D];exact(Stp.refl b).eq (by simp [f1T]) (by simp [f1T])
 |[x],s,b=>by
  rw[f1D]
  exact(f1S Φ 8 0 _ b).eq (by simp [f1T];omega) (by simp [f1T];omega)
 |x::y::r,s,b=>by
  rw[f1D]
  have e:f1T Φ.ex (x::y::r).length=(8:Nat) * (3 * f1O Φ.ex)+f1T Φ.ex r.length:=by
   have h2:((x::y::r).length+1) / 2=1+(r.length+1) / 2:=by simp only[g5X];omega
   unfold f1T
   rw[h2,Int.natCast_add,Int.add_mul]
   omega
  exact((f1S Φ 8 0 _ b).trans (f1U Φ r _ _)).eq e.symm e.symm
theorem f1V (Φ:Fo) (v:Int) {l:List Li} (hl:l≠[]) (b:Bd):Stp b (f1E Φ v l b).2 (f1T Φ.ex l.length) (f1T Φ.ex l.length):=by
 unfold f1E
 match l,hl with
 |x::r,_=>exact f1U Φ (x::r) _ b
theorem f1W {Φ:Fo} (hΦ:Φ.Nn) {b:Bd} (hb:BdOk b) (x:Ht):LiOk (f0P Φ x b).2.vars (f0P Φ x b).1:=.var hΦ (Int.le_of_lt hb.pos) (by show b.vars < b.vars+1;omega)
theorem f1X {Φ:Fo} (hΦ:Φ.Nn) {b:Bd} (hb:BdOk b) (x y:Li):LiOk (f0R Φ x y b).2.vars (f0R Φ x y b).1:=f1W hΦ hb ⟨1,x,y,0⟩
theorem f1Y {Φ:Fo} (hΦ:Φ.Nn) {b:Bd} (hb:BdOk b) (x:Li):LiOk (f0X Φ x b).2.vars (f0X Φ x b).1:=by
 have h1:=(f1G Φ ⟨2,x,f0E,0⟩ b).ok hb
 have h2:=f1X hΦ h1 x (f0P Φ ⟨2,x,f0E,0⟩ b).1
 have h3:=((f1H Φ x (f0P Φ ⟨2,x,f0E,0⟩ b).1 _).ok h1).pos
 exact .not hΦ h3 h2
theorem f1Z {Φ:Fo} (hΦ:Φ.Nn) {b:Bd} (hb:BdOk b) {x y:Li} (hx:LiOk b.vars x) (hy:LiOk b.vars y):LiOk (orB Φ x y b).2.vars (orB Φ x y b).1 :=
 .sub hΦ ((LiOk.add hΦ hx hy).mono (f1H Φ x y b).le) (f1X hΦ hb x y)
theorem f2A {Φ:Fo} (hΦ:Φ.Nn) {b:Bd} (hb:BdOk b) (c:Li) {x y:Li} (hx:LiOk b.vars x) (hy:LiOk b.vars y):LiOk (f0Y Φ c x y b).2.vars (f0Y Φ c x y b).1 :=
 .add hΦ (hy.mono (f1H Φ c _ b).le) (f1X hΦ hb c _)
theorem f2B {Φ:Fo} (hΦ:Φ.Nn) (x:Li):∀ (k:Nat) (i:Int) (ls:List Li) (ts:List (Int×Int)) (b:Bd),BdOk b->(∀ l,l∈ls->LiOk b.vars l)->∀ l,l∈(f0U Φ x k i ls ts b).1->LiOk (f0U Φ x k i ls ts b).2.2.vars l
 |0,i,ls,ts,b,hb,h=>by rw[f0U];exact h
 |k+1,i,ls,ts,b,hb,h=>by
  rw[f0U]
  have s1:=(f1G Φ ⟨3,x,f0E,i⟩ b).trans (f1J (f0P Φ ⟨3,x,f0E,i⟩ b).1 (f0P Φ ⟨3,x,f0E,i⟩ b).2)
  refine f2B hΦ x k _ _ _ _ (s1.ok hb) λl hl=>?_
  rcases g6G.1 hl with hl|hl
  ·exact(h l hl).mono s1.le
  ·rw[g6M.1 hl];exact f1W hΦ hb _
theorem f2C (Φ:Fo) (x:Li):∀ (k:Nat) (i:Int) (ls:List Li) (ts:List (Int×Int)) (b:Bd),(f0U Φ x k i ls ts b).1.length=ls.length+k/\(f0U Φ x k i ls ts b).2.1.length=ts.length+k
 |0,i,ls,ts,b=>by rw[f0U];exact⟨rfl,rfl⟩
 |k+1,i,ls,ts,b=>by
  rw[f0U]
  obtain⟨h1,h2⟩:=f2C Φ x k (i+1) (ls++[(f0P Φ ⟨3,x,f0E,i⟩ b).1]) (ts++[(b.vars,Φ.red (IntKind.u64.wrap (1 * 2 ^ min i.toNat IntKind.u64.bits)))]) (f0T (f0P Φ ⟨3,x,f0E,i⟩ b).1 (f0P Φ ⟨3,x,f0E,i⟩ b).2)
  simp only[g5W,List.length_singleton] at h1 h2
  exact⟨by omega,by omega⟩
theorem f2D {Φ:Fo} (hΦ:Φ.Nn) {b:Bd} (hb:BdOk b) (x y:Li) (n:Int):LiOk (f0Z Φ x y n b).2.vars (f0Z Φ x y n b).1:=by
 unfold f0Z
 by_cases c:n < 0\/62<=n
 ·rw[if_pos c];exact .nil _
 ·rw[if_neg c]
  have hs:=f1L Φ (f0N Φ (f0M Φ (f0G Φ (IntKind.u64.wrap (1 * 2 ^ min n.toNat IntKind.u64.bits))) x) y) (n:=n+1) (by omega) (by omega) b
  refine .not hΦ (hs.ok hb).pos ?_
  rw[List.getD_eq_getElem?_getD]
  generalize f0N Φ (f0M Φ (f0G Φ (IntKind.u64.wrap (1 * 2 ^ min n.toNat IntKind.u64.bits))) x) y=z at hs
  cases hi:(f0V Φ z (n+1) b).1[n.toNat]? with
  |none=>exact .nil _
  |some l =>
   have hm:=g6K hi
   unfold f0V at hm ⊢
   rw[if_neg (by omega)] at hm ⊢
   exact(f2B hΦ z _ 0 [] [] b hb (λl hl=>by cases hl) l hm).mono (f1I Φ _ _ _).le
theorem f2E {Φ:Fo} (hΦ:Φ.Nn) {b:Bd} (hb:BdOk b) (x:Li):LiOk (f1A Φ x b).2.vars (f1A Φ x b).1:=by
 unfold f1A
 simp only
 refine f1X hΦ ?_ _ _
 have h1:=(f1H Φ x x b).ok hb
 split
 ·exact(f1H Φ _ _ _).ok h1
 ·split
  ·exact(f1H Φ _ _ _).ok ((f1H Φ _ _ _).ok h1)
  ·exact h1
def TrOk (n:Int) (s:Tr):Prop:=LiOk n s.1/\LiOk n s.2.1/\LiOk n s.2.2
theorem f2F {Φ:Fo} (hΦ:Φ.Nn) {b:Bd} (hb:BdOk b) (r:Int) (s:Tr):TrOk (f1B Φ r s b).2.vars (f1B Φ r s b).1:=by
 unfold f1B
 simp only
 have s1:=f1Q Φ (f0M Φ s.1 (f0G Φ (Φ.pc r 0))) b
 have b1:=s1.ok hb
 have a1:=f2E hΦ hb (f0M Φ s.1 (f0G Φ (Φ.pc r 0)))
 generalize f1A Φ (f0M Φ s.1 (f0G Φ (Φ.pc r 0))) b=q1 at s1 b1 a1 ⊢
 have s2:=f1Q Φ (f0M Φ s.2.1 (f0G Φ (Φ.pc r 1))) q1.2
 have b2:=s2.ok b1
 have a2:=f2E hΦ b1 (f0M Φ s.2.1 (f0G Φ (Φ.pc r 1)))
 generalize f1A Φ (f0M Φ s.2.1 (f0G Φ (Φ.pc r 1))) q1.2=q2 at s2 b2 a2 ⊢
 have s3:=f1Q Φ (f0M Φ s.2.2 (f0G Φ (Φ.pc r 2))) q2.2
 have a3:=f2E hΦ b2 (f0M Φ s.2.2 (f0G Φ (Φ.pc r 2)))
 generalize f1A Φ (f0M Φ s.2.2 (f0G Φ (Φ.pc r 2))) q2.2=q3 at s3 a3 ⊢
 have c1:=a1.mono (Int.le_trans s2.le s3.le)
 have c2:=a2.mono s3.le
 have m:=LiOk.add hΦ (LiOk.add hΦ c1 c2) a3
 exact⟨.add hΦ c1 m,.add hΦ c2 m,.add hΦ a3 m⟩
theorem f2G {Φ:Fo} (hΦ:Φ.Nn):∀ (k:Nat) (r:Int) (s:Tr) (b:Bd),BdOk b->TrOk b.vars s->TrOk (f1C Φ k r s b).2.vars (f1C Φ k r s b).1
 |0,r,s,b,hb,hs=>by rw[f1C];exact hs
 |k+1,r,s,b,hb,hs=>by
  rw[f1C]
  exact f2G hΦ k _ _ _ ((f1R Φ r s b).ok hb) (f2F hΦ hb r s)
theorem f2H {Φ:Fo} (hΦ:Φ.Nn):∀ (l:List Li) (s:Tr) (b:Bd),BdOk b->TrOk b.vars s->(∀ x,x∈l->LiOk b.vars x)->TrOk (f1D Φ l s b).2.vars (f1D Φ l s b).1
 |[],s,b,hb,hs,hl=>by rw[f1D];exact hs
 |[x],s,b,hb,hs,hl=>by
  rw[f1D]
  exact f2G hΦ 8 0 _ b hb ⟨.add hΦ hs.1 (hl x (by simp)),hs.2⟩
 |x::y::r,s,b,hb,hs,hl=>by
  rw[f1D]
  have h1:=f2G hΦ 8 0 (f0M Φ s.1 x,f0M Φ s.2.1 y,s.2.2) b hb ⟨.add hΦ hs.1 (hl x (by simp)),.add hΦ hs.2.1 (hl y (by simp)),hs.2.2⟩
  have h2:=f1S Φ 8 0 (f0M Φ s.1 x,f0M Φ s.2.1 y,s.2.2) b
  exact f2H hΦ r _ _ (h2.ok hb) h1 λz hz=>(hl z (by simp [hz])).mono h2.le
theorem f2I {Φ:Fo} (hΦ:Φ.Nn) {b:Bd} (hb:BdOk b) {v:Int} (hv:0<=v) {l:List Li} (hl:∀ x,x∈l->LiOk b.vars x):LiOk (f1E Φ v l b).2.vars (f1E Φ v l b).1:=by
 have h0:TrOk b.vars (f0E,f0E,f0G Φ (Φ.add (Φ.mul v 65536) l.length)):=⟨.nil _,.nil _,.const hΦ hb.pos (hΦ.add _ _ (hΦ.mul _ _ hv (by decide)) (by omega))⟩
 unfold f1E
 match l,hl with
 |[],_=>exact(f2G hΦ 8 0 _ b hb h0).1
 |x::r,hl=>exact(f2H hΦ (x::r) _ b hb h0 hl).1
end Go.Ky

/- KX 84: the compiler as a model: values, names, statements, calls, inputs; the circuit. -/
namespace Go.Ky
open Go.Pi Go.Lx
structure Vc where
 els:List Li
 typ:Ty
 num:Int
abbrev Sx:=List (Nm×Vc)
structure Cst where
 b:Bd
 rows:Int
 full:Bool
abbrev Fc:=Nm->List Vc->Cst->Vc×Cst
def zVc:Vc:=⟨[],zTy,0⟩
def f2J (l:Li) (t:Ty):Vc:=⟨[l],t,0⟩
def f2K (v:Vc):Li:=v.els.getD 0 f0E
def f2L (n:Int) (s:Cst):Bool:=!(s.full || decide (n > 16384 - s.rows))
def f2M (n:Int) (s:Cst):Cst:=if f2L n s then ⟨s.b,s.rows+n,s.full⟩ else ⟨s.b,s.rows,true⟩
def f2N (n:Int) (g:Bd->Li×Bd) (s:Cst):Li×Cst:=if f2L n s then ((g s.b).1,⟨(g s.b).2,s.rows+n,s.full⟩) else (f0E,⟨s.b,s.rows,true⟩)
def f2O (n:Int) (g:Bd->Bd) (s:Cst):Cst:=if f2L n s then ⟨g s.b,s.rows+n,s.full⟩ else ⟨s.b,s.rows,true⟩
def f2P (vs:List Vc):Ty:=if vs.all (λv=>decide (v.typ=(vs.getD 0 zVc).typ)) then (vs.getD 0 zVc).typ else fieldT
def f2Q (e:Int):Int:=if e=3 then 2 else if e=5 then 3 else if e=7 then 4 else 0
def f2R (Φ:Fo) (v:Int) (l:List Li) (s:Cst):Li×Cst:=f2N (((l.length:Int)+1) / 2 * 8 * 3 * f2Q Φ.ex) (f1E Φ v l) s
def f2S (Φ:Fo) (op:Int) (l:List Li) (s:Cst):Li×Cst :=
 if op=9 then (f0O Φ (l.getD 0 f0E) (Φ.p - 1),s)
 else if op=12 then (f0M Φ (l.getD 0 f0E) (l.getD 1 f0E),s)
 else if op=13 then (f0N Φ (l.getD 0 f0E) (l.getD 1 f0E),s)
 else f2N 1 (f0R Φ (l.getD 0 f0E) (l.getD 1 f0E)) s
def f2T (Φ:Fo) (op:Int) (l:List Li) (w:Int) (s:Cst):Li×Cst :=
 f2N (w+2) (λb=>if op=17 then (f0W Φ (f0Z Φ (l.getD 1 f0E) (l.getD 0 f0E) w b).1,(f0Z Φ (l.getD 1 f0E) (l.getD 0 f0E) w b).2) else f0Z Φ (l.getD 0 f0E) (l.getD 1 f0E) w b) s
def f2U (Φ:Fo) (op:Int) (l:List Li) (s:Cst):Li×Cst :=
 if op=3 then (f0G Φ 1,s)
 else if op=10 then (f0W Φ (l.getD 0 f0E),s)
 else if op=18 then f2N 1 (f0R Φ (l.getD 0 f0E) (l.getD 1 f0E)) s
 else if op=19 then f2N 1 (orB Φ (l.getD 0 f0E) (l.getD 1 f0E)) s
 else if op=14 then f2N 3 (eqB Φ (l.getD 0 f0E) (l.getD 1 f0E)) s
 else if op=15 then f2N 3 (λb=>(f0W Φ (eqB Φ (l.getD 0 f0E) (l.getD 1 f0E) b).1,(eqB Φ (l.getD 0 f0E) (l.getD 1 f0E) b).2)) s
 else (f0E,s)
def f2V (Φ:Fo) (c:Li):List Li->List Li->Cst->List Li×Cst
 |x::xs,y::ys,s =>
  let q:=f2N 1 (f0Y Φ c x y) s
  let r:=f2V Φ c xs ys q.2
  (q.1::r.1,r.2)
 |_,_,s=>([],s)
def f2W (Φ:Fo) (c:Li) (x y:Vc) (s:Cst):Vc×Cst:=(⟨(f2V Φ c x.els y.els s).1,f2P [x,y],0⟩,(f2V Φ c x.els y.els s).2)
def opC (Φ:Fo) (Ψ:Fc) (op val:Int) (nm:Nm) (vs:List Vc) (s:Cst):Vc×Cst :=
 if op=1 then (f2J (f0G Φ val) (d3M val),s)
 else if op=5 then Ψ nm vs s
 else if op=6 then (f2J (f2R Φ val (vs.map f2K) s).1 fieldT,(f2R Φ val (vs.map f2K) s).2)
 else if op=7 then (⟨vs.map f2K,⟨(f2P vs).kind,(f2P vs).bits,(vs.length:Int)⟩,0⟩,s)
 else if op=20 then f2W Φ (f2K (vs.getD 0 zVc)) (vs.getD 1 zVc) (vs.getD 2 zVc) s
 else if op=9\/op=11\/op=12\/op=13 then (f2J (f2S Φ op (vs.map f2K) s).1 fieldT,(f2S Φ op (vs.map f2K) s).2)
 else if op=16\/op=17 then (f2J (f2T Φ op (vs.map f2K) (mx (vs.getD 0 zVc).typ.bits (vs.getD 1 zVc).typ.bits) s).1 d1G,(f2T Φ op (vs.map f2K) (mx (vs.getD 0 zVc).typ.bits (vs.getD 1 zVc).typ.bits) s).2)
 else (f2J (f2U Φ op (vs.map f2K) s).1 d1G,(f2U Φ op (vs.map f2K) s).2)
def lkC (nm:Nm) (sc:Sx):Vc:=(look nm sc).getD zVc
def f2X (e:Exp) (sc:Sx):Int :=
 if e.op=2 then (lkC e.name sc).num
 else if e.op=12 then IntKind.i64.wrap ((lkC (e.args.getD 0 default).name sc).num+IntKind.i64.wrap (e.args.getD 1 default).val)
 else if e.op=13 then IntKind.i64.wrap ((lkC (e.args.getD 0 default).name sc).num - IntKind.i64.wrap (e.args.getD 1 default).val)
 else IntKind.i64.wrap e.val
mutual
def evC (Φ:Fo) (Ψ:Fc) (sc:Sx):Exp->Cst->Vc×Cst
 |.mk op val nm _ l,s =>
  if op=2 then (lkC nm sc,s)
  else if op=8 then (match l with
   |a::b::_=>let q:=evC Φ Ψ sc a s;(f2J (q.1.els.getD (f2X b sc).toNat f0E) ⟨q.1.typ.kind,q.1.typ.bits,0⟩,q.2)
   |_=>(zVc,s))
  else let q:=f2Y Φ Ψ sc l s;opC Φ Ψ op val nm q.1 q.2
def f2Y (Φ:Fo) (Ψ:Fc) (sc:Sx):List Exp->Cst->List Vc×Cst
 |[],s=>([],s)
 |a::r,s=>let q:=evC Φ Ψ sc a s;let q2:=f2Y Φ Ψ sc r q.2;(q.1::q2.1,q2.2)
end
theorem f2Z (Φ:Fo) (Ψ:Fc) (sc:Sx) (e:Exp) (s:Cst):evC Φ Ψ sc e s=if e.op=2 then (lkC e.name sc,s)
  else if e.op=8 then (match e.args with
   |a::b::_=>(f2J ((evC Φ Ψ sc a s).1.els.getD (f2X b sc).toNat f0E) ⟨(evC Φ Ψ sc a s).1.typ.kind,(evC Φ Ψ sc a s).1.typ.bits,0⟩,(evC Φ Ψ sc a s).2)
   |_=>(zVc,s))
  else opC Φ Ψ e.op e.val e.name (f2Y Φ Ψ sc e.args s).1 (f2Y Φ Ψ sc e.args s).2:=by
 cases e with|mk op v n b l =>
 rcases l with _|⟨x,_|⟨y,r⟩⟩ <;> (simp only[evC];rfl)
def f3A (Φ:Fo) (x:Li) (t:Ty) (s:Cst):Cst :=
 if t.kind=2 then f2O 1 (f0T x) s
 else if t.kind=3 then f2O (t.bits+1) (λb=>(f0V Φ x t.bits b).2) s
 else s
def itC (f:Int->Sx->Cst->Sx×Cst):Nat->Int->Sx->Cst->Sx×Cst
 |0,_,sc,s=>(sc,s)
 |k+1,n,sc,s=>if s.full then (sc,s) else itC f k (n+1) (f n sc s).1 (f n sc s).2
def f3B (Φ:Fo) (typed:Bool) (ty:Ty) (q:Vc×Cst):Vc×Cst :=
 if typed then (⟨q.1.els,ty,q.1.num⟩,if ty.len=0 then f3A Φ (f2K q.1) ty q.2 else q.2) else q
mutual
def stC (Φ:Fo) (Ψ:Fc):St->Sx->Cst->Sx×Cst
 |.mk k nm typed ty e lo hi nl l,sc,s =>
  if k=1 then (e8L nm (f3B Φ typed ty (evC Φ Ψ sc e s)).1 sc,(f3B Φ typed ty (evC Φ Ψ sc e s)).2)
  else if k=2 then (sc,f2O 1 (f0S Φ (f2K (evC Φ Ψ sc e s).1) (f0G Φ 1)) (evC Φ Ψ sc e s).2)
  else if k=3 then (if idS (.mk k nm typed ty e lo hi nl l) then (sc,s) else itC (λn sc1 s1=>f3C Φ Ψ l (e8L nm ⟨[f0G Φ n],fieldT,n⟩ sc1) s1) (hi - lo).toNat lo sc s)
  else (sc,s)
def f3C (Φ:Fo) (Ψ:Fc):List St->Sx->Cst->Sx×Cst
 |[],sc,s=>(sc,s)
 |x::r,sc,s=>if s.full then (sc,s) else f3C Φ Ψ r (stC Φ Ψ x sc s).1 (stC Φ Ψ x sc s).2
end
theorem f3D (Φ:Fo) (Ψ:Fc) (x:St) (sc:Sx) (s:Cst):stC Φ Ψ x sc s =
  if x.kind=1 then (e8L x.name (f3B Φ x.typed x.ty (evC Φ Ψ sc x.ex s)).1 sc,(f3B Φ x.typed x.ty (evC Φ Ψ sc x.ex s)).2)
  else if x.kind=2 then (sc,f2O 1 (f0S Φ (f2K (evC Φ Ψ sc x.ex s).1) (f0G Φ 1)) (evC Φ Ψ sc x.ex s).2)
  else if x.kind=3 then (if idS x then (sc,s) else itC (λn sc1 s1=>f3C Φ Ψ x.body (e8L x.name ⟨[f0G Φ n],fieldT,n⟩ sc1) s1) (x.hi - x.lo).toNat x.lo sc s)
  else (sc,s):=by
 cases x
 rw[stC];rfl
def f3E:List Pa->List Vc->Sx->Sx
 |p::r,v::l,sc=>f3E r l (e8L p.name ⟨v.els,p.ty,0⟩ sc)
 |_,_,sc=>sc
def f3F (Φ:Fo) (Ψ:Fc) (f:Fu) (vs:List Vc) (s:Cst):Vc×Cst :=
 let q:=f3C Φ Ψ f.body (f3E f.params vs []) s
 if q.2.full then (⟨List.replicate (e8S f.res.len).toNat f0E,f.res,0⟩,q.2)
 else (⟨(evC Φ Ψ q.1 f.ret q.2).1.els,f.res,(evC Φ Ψ q.1 f.ret q.2).1.num⟩,(evC Φ Ψ q.1 f.ret q.2).2)
def fc0:Fc:=λ_ _ s=>(zVc,s)
def fcS (Φ:Fo) (f:Fu) (Ψ:Fc):Fc:=λnm vs s=>if nm=f.name then f3F Φ Ψ f vs s else Ψ nm vs s
def f3G (Φ:Fo):List Fu->Fc->Fc
 |[],Ψ=>Ψ
 |f::r,Ψ=>f3G Φ r (fcS Φ f Ψ)
def f3H (Φ:Fo) (t:Ty):Nat->Int->List Li->Cst->List Li×Cst
 |0,_,ls,s=>(ls,s)
 |k+1,i,ls,s=>f3H Φ t k (i+1) (ls++[f0H Φ (1+i)]) (f3A Φ (f0H Φ (1+i)) t s)
def inC (Φ:Fo):List De->Int->Int->Sx->Cst->Sx×Cst
 |[],_,_,sc,s=>(sc,s)
 |d::r,a,c,sc,s =>
  let n:=(e8S d.ty.len).toNat
  let q:=f3H Φ d.ty n (if d.pub then a else c) [] s
  inC Φ r (if d.pub then a+n else a) (if d.pub then c else c+n) (e8L d.name ⟨q.1,d.ty,0⟩ sc) q.2
def f3I (pu se:Int):Bd:=⟨pu,se,1+pu+se,[],[]⟩
def runC (Φ:Fo) (p:Pg) (pu se:Int):Cst :=
 let q:=inC Φ p.decls 0 pu [] ⟨f3I pu se,0,false⟩
 (f3C Φ (f3G Φ p.funcs fc0) p.body q.1 q.2).2
def compC (Φ:Fo) (p:Pg) (kn:Bool):Option Bd×Int :=
 if (d4S p).2.2≠0 then (none,(d4S p).2.2)
 else if ¬(kn=true/\Φ.p > 2 ^ (d4S p).1.toNat) then (none,7)
 else if (d7W p).1+(d7W p).2>=65536 then (none,3)
 else
  let s:=runC Φ p (d7W p).1 (d7W p).2
  if s.full then (none,3)
  else if (s.b.rows.length:Int) > 16384\/s.b.vars > 65536 then (none,3)
  else (some s.b,0)
theorem f3J (Φ:Fo) (Ψ:Fc) (l:List St) (sc:Sx) {s:Cst} (h:s.full=true):f3C Φ Ψ l sc s=(sc,s):=by
 cases l with
 |nil=>rw[f3C]
 |cons x r=>rw[f3C,if_pos h]
theorem f3K (Φ:Fo) (Ψ:Fc) (x:St) (r:List St) (sc:Sx) {s:Cst} (h:s.full=false):f3C Φ Ψ (x::r) sc s=f3C Φ Ψ r (stC Φ Ψ x sc s).1 (stC Φ Ψ x sc s).2:=by
 rw[f3C,if_neg (by rw[h];decide)]
end Go.Ky

/- KX 85: what the checker lets through: the compiler's values have the right lengths, its state stays in order. -/
namespace Go.Ky
open Go.Pi Go.Lx
structure Fo.Ok (Φ:Fo):Prop where
 nn:Φ.Nn
 ex:Φ.ex=3\/Φ.ex=5\/Φ.ex=7
 p1:1<=Φ.p
structure CsOk (s:Cst):Prop where
 b:BdOk s.b
 rows:(s.b.rows.length:Int)<=s.rows
 r0:0<=s.rows
 le:s.rows<=16384
 hs:s.b.hints.length<=s.b.rows.length
structure Cle (s s':Cst):Prop where
 vars:s.b.vars<=s'.b.vars
 full:s.full=true->s'.full=true
 pub:s'.b.pub=s.b.pub
 sec:s'.b.sec=s.b.sec
theorem Cle.refl (s:Cst):Cle s s:=⟨Int.le_refl _,id,rfl,rfl⟩
theorem Cle.trans {a b c:Cst} (x:Cle a b) (y:Cle b c):Cle a c:=⟨Int.le_trans x.vars y.vars,λh=>y.full (x.full h),y.pub.trans x.pub,y.sec.trans x.sec⟩
theorem CsOk.rm {s:Cst} (h:CsOk s) {k:Int} (hk:k<=300000):Rm s.b k:=by
 have h1:=h.b.most
 have h2:=h.b.vars
 have h3:=h.rows
 have h4:=h.le
 have h5:=h.hs
 exact⟨by omega,by omega⟩
theorem CsOk.vars {s:Cst} (h:CsOk s):0 < s.b.vars/\s.b.vars<=100000:=by
 have h1:=h.b.most
 have h2:=h.b.vars
 have h3:=h.rows
 have h4:=h.le
 have h5:=h.hs
 exact⟨h.b.pos,by omega⟩
theorem f3L {n:Int} {s:Cst} (h:f2L n s=true):s.full=false/\n<=16384 - s.rows:=by
 unfold f2L at h
 simp only[Bool.not_eq_true',g4W,g7J] at h
 exact⟨h.1,by omega⟩
theorem f3M {s:Cst} (h:CsOk s) {n:Int} (hr:f2L n s=true) {b':Bd} {r k:Int} (hs:Stp s.b b' r k) (h1:r<=n) (h2:k<=r):CsOk ⟨b',s.rows+n,s.full⟩/\Cle s ⟨b',s.rows+n,s.full⟩:=by
 obtain⟨_,hn⟩:=f3L hr
 have e1:=hs.rows
 have e2:=hs.hints
 have e3:=hs.r0
 have e4:=h.rows
 have e5:=h.r0
 have e6:=h.hs
 refine⟨⟨hs.ok h.b,?_,?_,?_,?_⟩,⟨hs.le,id,hs.pub,hs.sec⟩⟩
 ·show(b'.rows.length:Int)<=s.rows+n;omega
 ·show 0<=s.rows+n;omega
 ·show s.rows+n<=16384;omega
 ·show b'.hints.length<=b'.rows.length;omega
theorem f3N {s:Cst} (h:CsOk s):CsOk ⟨s.b,s.rows,true⟩/\Cle s ⟨s.b,s.rows,true⟩:=⟨⟨h.b,h.rows,h.r0,h.le,h.hs⟩,⟨Int.le_refl _,λ_=>rfl,rfl,rfl⟩⟩
theorem f3O {s:Cst} (h:CsOk s) {n:Int} {g:Bd->Li×Bd} {r k:Int} (hs:Stp s.b (g s.b).2 r k) (h1:r<=n) (h2:k<=r) (hl:LiOk (g s.b).2.vars (g s.b).1):CsOk (f2N n g s).2/\Cle s (f2N n g s).2/\LiOk (f2N n g s).2.b.vars (f2N n g s).1:=by
 unfold f2N
 cases hr:f2L n s with
 |true =>
  rw[if_pos rfl]
  obtain⟨a,b⟩:=f3M h hr hs h1 h2
  exact⟨a,b,hl⟩
 |false =>
  rw[if_neg (by simp)]
  obtain⟨a,b⟩:=f3N h
  exact⟨a,b,.nil _⟩
theorem f3P {s:Cst} (h:CsOk s) {n:Int} {g:Bd->Bd} {r k:Int} (hs:Stp s.b (g s.b) r k) (h1:r<=n) (h2:k<=r):CsOk (f2O n g s)/\Cle s (f2O n g s):=by
 unfold f2O
 cases hr:f2L n s with
 |true =>
  rw[if_pos rfl]
  exact f3M h hr hs h1 h2
 |false =>
  rw[if_neg (by simp)]
  exact f3N h
def TyG (t:Ty):Prop:=0<=t.bits/\t.bits<=62
theorem f3Q {t:Ty} (h:tyB t=true):TyG t:=by
 unfold tyB at h
 unfold TyG
 split at h
 ·cases h
 ·split at h
  ·simp only[g7L] at h;omega
  ·split at h
   ·simp only[g4S,g7L] at h;omega
   ·cases h
theorem f3R:TyG fieldT:=⟨by decide,by decide⟩
theorem f3S:TyG d1G:=⟨by decide,by decide⟩
theorem f3T {n:Int} (h0:0<=n):TyG (d3M n):=by
 unfold d3M
 split
 ·exact f3R
 ·rename_i c
  have hz:0<=d3L n/\d3L n<=62:=by
   unfold d3L
   split
   ·exact⟨by decide,by decide⟩
   ·have hl:n.toNat.log2 < 62:=(Nat.log2_lt (by omega)).2 (by
     have:(2:Nat) ^ 62=4611686018427387904:=by decide
     omega)
    exact⟨by omega,by omega⟩
  unfold TyG
  show 0<=(if d3L n > 1 then d3L n else 1)/\(if d3L n > 1 then d3L n else 1)<=62
  split <;> omega
structure VcOk (m n:Int) (v:Vc):Prop where
 n0:0<=n
 n1:n<=B20
 len:(v.els.length:Int)=e8S n
 els:∀ x,x∈v.els->LiOk m x
 ty:TyG v.typ
theorem VcOk.mono {m m' n:Int} (h:m<=m') {v:Vc} (hv:VcOk m n v):VcOk m' n v:=⟨hv.n0,hv.n1,hv.len,λx hx=>(hv.els x hx).mono h,hv.ty⟩
theorem VcOk.one {m:Int} {l:Li} {t:Ty} (h:LiOk m l) (ht:TyG t):VcOk m 0 (f2J l t):=⟨Int.le_refl _,by decide,rfl,λx hx=>by
 have:x=l:=by simpa [f2J] using hx
 rw[this];exact h,ht⟩
theorem f3U {m:Int} {l:List Li} (h:∀ x,x∈l->LiOk m x) (i:Nat):LiOk m (l.getD i f0E):=by
 rw[List.getD_eq_getElem?_getD]
 cases hi:l[i]? with
 |none=>exact .nil m
 |some x=>exact h x (g6K hi)
theorem VcOk.fst {m n:Int} {v:Vc} (h:VcOk m n v):LiOk m (f2K v):=f3U h.els 0
theorem VcOk.pos {m n:Int} {v:Vc} (h:VcOk m n v):0 < v.els.length:=by
 have h1:=h.len
 have h2:=h.n0
 unfold e8S at h1
 split at h1 <;> omega
def VsC (m:Int):List Ty->List Vc->Prop
 |[],[]=>True
 |t::ts,v::vs=>VcOk m t.len v/\VsC m ts vs
 |_,_=>False
def PsC (m:Int):List Pa->List Vc->Prop
 |[],[]=>True
 |t::ts,v::vs=>VcOk m t.ty.len v/\PsC m ts vs
 |_,_=>False
theorem VsC.mono {m m':Int} (hm:m<=m'):∀ {ts:List Ty} {vs:List Vc},VsC m ts vs->VsC m' ts vs
 |[],[],_=>True.intro
 |t::ts,v::vs,h=>⟨h.1.mono hm,h.2.mono hm⟩
 |[],v::vs,h=>h.elim
 |t::ts,[],h=>h.elim
theorem PsC.mono {m m':Int} (hm:m<=m'):∀ {ts:List Pa} {vs:List Vc},PsC m ts vs->PsC m' ts vs
 |[],[],_=>True.intro
 |t::ts,v::vs,h=>⟨h.1.mono hm,h.2.mono hm⟩
 |[],v::vs,h=>h.elim
 |t::ts,[],h=>h.elim
theorem VsC.len {m:Int}:∀ {ts:List Ty} {vs:List Vc},VsC m ts vs->vs.length=ts.length
 |[],[],_=>rfl
 |t::ts,v::vs,h=>by simp [VsC.len h.2]
 |[],v::vs,h=>h.elim
 |t::ts,[],h=>h.elim
theorem PsC.len {m:Int}:∀ {ts:List Pa} {vs:List Vc},PsC m ts vs->vs.length=ts.length
 |[],[],_=>rfl
 |t::ts,v::vs,h=>by simp [PsC.len h.2]
 |[],v::vs,h=>h.elim
 |t::ts,[],h=>h.elim
theorem VsC.at {m:Int}:∀ {ts:List Ty} {vs:List Vc},VsC m ts vs->∀ i,i < ts.length->VcOk m (ts.getD i zTy).len (vs.getD i zVc)
 |[],[],_,i,hi=>absurd hi (by simp)
 |t::ts,v::vs,h,0,_=>by simpa using h.1
 |t::ts,v::vs,h,i+1,hi=>by simpa using VsC.at h.2 i (by simpa using hi)
 |[],v::vs,h,_,_=>h.elim
 |t::ts,[],h,_,_=>h.elim
theorem VsC.mem {m:Int}:∀ {ts:List Ty} {vs:List Vc},VsC m ts vs->∀ v,v∈vs->∃ n,VcOk m n v
 |[],[],_,v,hv=>by cases hv
 |t::ts,v::vs,h,x,hx=>by
  rcases g6H.1 hx with e|e
  ·subst e;exact⟨_,h.1⟩
  ·exact VsC.mem h.2 x e
 |[],v::vs,h,_,_=>h.elim
 |t::ts,[],h,_,_=>h.elim
theorem VsC.fsts {m:Int} {ts:List Ty} {vs:List Vc} (h:VsC m ts vs):∀ n,n∈vs.map f2K->LiOk m n:=by
 intro n hn
 obtain⟨v,hv,rfl⟩:=List.mem_map.1 hn
 obtain⟨k,hk⟩:=h.mem v hv
 exact hk.fst
theorem f3V {m:Int} {ts:List Ty} {vs:List Vc} (h:VsC m ts vs):TyG (f2P vs):=by
 unfold f2P
 split
 ·cases vs with
  |nil=>exact⟨by decide,by decide⟩
  |cons v r =>
   obtain⟨n,hn⟩:=h.mem v (by simp)
   exact hn.ty
 ·exact f3R
theorem f3W {m:Int}:∀ (ts:List Ty) (ps:List Pa) (vs:List Vc),VsC m ts vs->ts.length=ps.length->d3Q ts ps=true->PsC m ps vs
 |[],[],[],_,_,_=>True.intro
 |t::ts,p::ps,v::vs,h,hl,hf=>by
  simp only[d3Q,g4S] at hf
  obtain⟨f1,f2⟩:=hf
  refine⟨?_,f3W ts ps vs h.2 (by simpa using hl) f2⟩
  rw[<-e9K f1];exact h.1
 |[],[],v::vs,h,_,_=>h.elim
 |[],p::ps,_,_,hl,_=>by simp at hl
 |t::ts,[],_,_,hl,_=>by simp at hl
 |t::ts,p::ps,[],h,_,_=>h.elim
structure Ro (s:Cst) (n:Int) (q:Vc×Cst):Prop where
 cs:CsOk q.2
 le:Cle s q.2
 v:VcOk q.2.b.vars n q.1
def FcOk (fs:Fs) (Ψ:Fc):Prop:=∀ nm f,look nm fs=some f->∀ vs s,CsOk s->PsC s.b.vars f.params vs->Ro s f.res.len (Ψ nm vs s)
def ScC (m:Int) (ns:Ns) (sc:Sx):Prop:=∀ nm s,look nm ns=some s->∃ v,look nm sc=some v/\VcOk m s.typ.len v/\(s.loop=true->0<=s.low/\s.high<=1000000/\s.low<=v.num/\v.num < s.high)
theorem ScC.mono {m m':Int} (h:m<=m') {ns:Ns} {sc:Sx} (hs:ScC m ns sc):ScC m' ns sc:=λnm s hn=>by
 obtain⟨v,h1,h2,h3⟩:=hs nm s hn
 exact⟨v,h1,h2.mono h,h3⟩
theorem f3X {s:Cst} {l:Li×Cst} {t:Ty} (h:CsOk l.2/\Cle s l.2/\LiOk l.2.b.vars l.1) (ht:TyG t):Ro s 0 (f2J l.1 t,l.2):=⟨h.1,h.2.1,.one h.2.2 ht⟩
theorem f3Y {e:Int} (he:e=3\/e=5\/e=7) (n:Nat):f1T e n<=((n:Int)+1) / 2 * 8 * 3 * f2Q e:=by
 unfold f1T f1O f2Q
 rcases he with rfl|rfl|rfl <;> simp <;> omega
theorem f3Z {Φ:Fo} (hΦ:Φ.Ok) {v:Int} (hv:0<=v) {l:List Li} (h0:l≠[]) {s:Cst} (hs:CsOk s) (hl:∀ x,x∈l->LiOk s.b.vars x):CsOk (f2R Φ v l s).2/\Cle s (f2R Φ v l s).2/\LiOk (f2R Φ v l s).2.b.vars (f2R Φ v l s).1 :=
 f3O hs (f1V Φ v h0 s.b) (f3Y hΦ.ex _) (Int.le_refl _) (f2I hΦ.nn hs.b hv hl)
theorem f4A {Φ:Fo} (hΦ:Φ.Nn) {n c:Int} {x:Li} (hc:0<=c) (hx:LiOk n x):LiOk n (f0O Φ x c):=.comb hΦ hc (.nil n) hx
theorem f4B {Φ:Fo} (hΦ:Φ.Ok) (op:Int) {l:List Li} {s:Cst} (hs:CsOk s) (hl:∀ x,x∈l->LiOk s.b.vars x):CsOk (f2S Φ op l s).2/\Cle s (f2S Φ op l s).2/\LiOk (f2S Φ op l s).2.b.vars (f2S Φ op l s).1:=by
 have l0:=f3U hl 0
 have l1:=f3U hl 1
 have hp:=hΦ.p1
 unfold f2S
 split
 ·exact⟨hs,.refl s,f4A hΦ.nn (by omega) l0⟩
 ·split
  ·exact⟨hs,.refl s,.add hΦ.nn l0 l1⟩
  ·split
   ·exact⟨hs,.refl s,.sub hΦ.nn l0 l1⟩
   ·exact f3O hs (f1H Φ _ _ _) (Int.le_refl _) (Int.le_refl _) (f1X hΦ.nn hs.b _ _)
theorem f4C (Φ:Fo) (x y:Li) {n:Int} (h0:0<=n) (b:Bd):∃ r h,Stp b (f0Z Φ x y n b).2 r h/\r<=n+2/\h<=r:=by
 by_cases c:n < 62
 ·exact⟨_,_,f1N Φ x y h0 c b,Int.le_refl _,by omega⟩
 ·refine⟨0,0,?_,by omega,Int.le_refl _⟩
  unfold f0Z
  rw[if_pos (by omega)]
  exact .refl b
theorem f4D {Φ:Fo} (hΦ:Φ.Ok) (op:Int) {l:List Li} {w:Int} (hw:0<=w) {s:Cst} (hs:CsOk s):CsOk (f2T Φ op l w s).2/\Cle s (f2T Φ op l w s).2/\LiOk (f2T Φ op l w s).2.b.vars (f2T Φ op l w s).1:=by
 unfold f2T
 by_cases c:op=17
 ·simp only[c,if_true]
  obtain⟨r,h,x1,x2,x3⟩:=f4C Φ (l.getD 1 f0E) (l.getD 0 f0E) hw s.b
  exact f3O (g:=λb=>(f0W Φ (f0Z Φ (l.getD 1 f0E) (l.getD 0 f0E) w b).1,(f0Z Φ (l.getD 1 f0E) (l.getD 0 f0E) w b).2)) hs x1 x2 x3 (.not hΦ.nn (x1.ok hs.b).pos (f2D hΦ.nn hs.b _ _ _))
 ·simp only[c,if_false]
  obtain⟨r,h,x1,x2,x3⟩:=f4C Φ (l.getD 0 f0E) (l.getD 1 f0E) hw s.b
  exact f3O (g:=λb=>f0Z Φ (l.getD 0 f0E) (l.getD 1 f0E) w b) hs x1 x2 x3 (f2D hΦ.nn hs.b _ _ _)
theorem f4E {Φ:Fo} (hΦ:Φ.Ok) (op:Int) {l:List Li} {s:Cst} (hs:CsOk s) (hl:∀ x,x∈l->LiOk s.b.vars x):CsOk (f2U Φ op l s).2/\Cle s (f2U Φ op l s).2/\LiOk (f2U Φ op l s).2.b.vars (f2U Φ op l s).1:=by
 have l0:=f3U hl 0
 have l1:=f3U hl 1
 unfold f2U
 split
 ·exact⟨hs,.refl s,.const hΦ.nn hs.b.pos (by decide)⟩
 split
 ·exact⟨hs,.refl s,.not hΦ.nn hs.b.pos l0⟩
 split
 ·exact f3O hs (f1H Φ _ _ _) (Int.le_refl _) (Int.le_refl _) (f1X hΦ.nn hs.b _ _)
 split
 ·exact f3O (g:=orB Φ (l.getD 0 f0E) (l.getD 1 f0E)) hs (f1H Φ _ _ _) (Int.le_refl _) (Int.le_refl _) (f1Z hΦ.nn hs.b l0 l1)
 split
 ·exact f3O (g:=eqB Φ (l.getD 0 f0E) (l.getD 1 f0E)) hs (f1M Φ _ _) (Int.le_refl _) (by decide) (f1Y hΦ.nn hs.b _)
 split
 ·exact f3O (g:=λb=>(f0W Φ (eqB Φ (l.getD 0 f0E) (l.getD 1 f0E) b).1,(eqB Φ (l.getD 0 f0E) (l.getD 1 f0E) b).2)) hs (f1M Φ _ _) (Int.le_refl _) (by decide) (.not hΦ.nn ((f1M Φ _ _).ok hs.b).pos (f1Y hΦ.nn hs.b _))
 ·exact⟨hs,.refl s,.nil _⟩
theorem f4F {Φ:Fo} (hΦ:Φ.Ok) (c:Li) {x y:Li} {s:Cst} (hs:CsOk s) (hx:LiOk s.b.vars x) (hy:LiOk s.b.vars y):CsOk (f2N 1 (f0Y Φ c x y) s).2/\Cle s (f2N 1 (f0Y Φ c x y) s).2/\LiOk (f2N 1 (f0Y Φ c x y) s).2.b.vars (f2N 1 (f0Y Φ c x y) s).1 :=
 f3O (g:=f0Y Φ c x y) hs (f1H Φ _ _ _) (Int.le_refl _) (Int.le_refl _) (f2A hΦ.nn hs.b c hx hy)
theorem f4G {Φ:Fo} (hΦ:Φ.Ok) (c:Li):∀ (xs ys:List Li) (s:Cst),xs.length=ys.length->CsOk s->(∀ x,x∈xs->LiOk s.b.vars x)->(∀ x,x∈ys->LiOk s.b.vars x)->CsOk (f2V Φ c xs ys s).2/\Cle s (f2V Φ c xs ys s).2/\(f2V Φ c xs ys s).1.length=xs.length/\∀ x,x∈(f2V Φ c xs ys s).1->LiOk (f2V Φ c xs ys s).2.b.vars x
 |[],[],s,_,hs,_,_=>⟨hs,.refl s,rfl,λx hx=>by cases hx⟩
 |x::xs,y::ys,s,hl,hs,hx,hy=>by
  rw[f2V]
  obtain⟨a1,a2,a3⟩:=f4F hΦ c hs (hx x (by simp)) (hy y (by simp))
  obtain⟨b1,b2,b3,b4⟩:=f4G hΦ c xs ys (f2N 1 (f0Y Φ c x y) s).2 (by simpa using hl) a1 (λz hz=>(hx z (by simp [hz])).mono a2.vars) (λz hz=>(hy z (by simp [hz])).mono a2.vars)
  refine⟨b1,a2.trans b2,by simp [b3],λz hz=>?_⟩
  rcases g6H.1 hz with rfl|hz
  ·exact a3.mono b2.vars
  ·exact b4 z hz
 |[],y::ys,s,hl,_,_,_=>by simp at hl
 |x::xs,[],s,hl,_,_,_=>by simp at hl
theorem f4H {Φ:Fo} (hΦ:Φ.Ok) {Ψ:Fc} {fs:Fs} (hΨ:FcOk fs Ψ) {ns:Ns} {op val:Int} {nm:Nm} {ts:List Ty} {vs:List Vc} {w:Int} {s:Cst} (hs:CsOk s) (hv:0<=val) (h2:op≠2) (h8:op≠8) (hl:ts.length<=B20) (hB:opB op (ts.length:Int) val nm=true) (h:VsC s.b.vars ts vs) (he:(opM fs ns op val nm ts w).1.2=0) :
  Ro s (opM fs ns op val nm ts w).1.1.len (opC Φ Ψ op val nm vs s):=by
 unfold opM at he ⊢
 unfold opC
 have tru:op≠1->op≠5->op≠6->op≠7->op≠20->¬(op=9\/op=11\/op=12\/op=13)->¬(op=16\/op=17)->Ro s 0 (if op=1 then (f2J (f0G Φ val) (d3M val),s)
   else if op=5 then Ψ nm vs s
   else if op=6 then (f2J (f2R Φ val (vs.map f2K) s).1 fieldT,(f2R Φ val (vs.map f2K) s).2)
   else if op=7 then (⟨vs.map f2K,⟨(f2P vs).kind,(f2P vs).bits,(vs.length:Int)⟩,0⟩,s)
   else if op=20 then f2W Φ (f2K (vs.getD 0 zVc)) (vs.getD 1 zVc) (vs.getD 2 zVc) s
   else if op=9\/op=11\/op=12\/op=13 then (f2J (f2S Φ op (vs.map f2K) s).1 fieldT,(f2S Φ op (vs.map f2K) s).2)
   else if op=16\/op=17 then (f2J (f2T Φ op (vs.map f2K) (mx (vs.getD 0 zVc).typ.bits (vs.getD 1 zVc).typ.bits) s).1 d1G,(f2T Φ op (vs.map f2K) (mx (vs.getD 0 zVc).typ.bits (vs.getD 1 zVc).typ.bits) s).2)
   else (f2J (f2U Φ op (vs.map f2K) s).1 d1G,(f2U Φ op (vs.map f2K) s).2)):=by
  intro a1 a5 a6 a7 a20 a9 a16
  rw[if_neg a1,if_neg a5,if_neg a6,if_neg a7,if_neg a20,if_neg a9,if_neg a16]
  exact f3X (f4E hΦ op hs h.fsts) f3S
 by_cases c1:op=1
 ·rw[if_pos c1,if_pos c1]
  have:(d3M val).len=0:=by unfold d3M;split <;> rfl
  show Ro s (d3M val).len _
  rw[this]
  exact f3X (l:=(f0G Φ val,s)) ⟨hs,.refl s,.const hΦ.nn hs.b.pos hv⟩ (f3T hv)
 rw[if_neg c1] at he ⊢
 by_cases c3:op=3\/op=4
 ·rw[if_pos c3]
  exact tru c1 (by omega) (by omega) (by omega) (by omega) (by omega) (by omega)
 rw[if_neg c3,if_neg h2] at he ⊢
 by_cases c5:op=5
 ·rw[if_pos c5] at he ⊢
  rw[if_neg c1,if_pos c5]
  simp only at he ⊢
  unfold d3R at he ⊢
  cases hf:look nm fs with
  |none=>rw[hf] at he;cases he
  |some f =>
   rw[hf] at he
   simp only at he ⊢
   split at he
   ·cases he
   ·rename_i c
    split at he
    ·rename_i cf
     rw[if_neg c,if_pos cf]
     exact hΨ nm f hf vs s hs (f3W ts f.params vs h (by omega) cf)
    ·cases he
 rw[if_neg c5] at he ⊢
 by_cases c6:op=6
 ·rw[if_pos c6] at he ⊢
  simp only at he ⊢
  split at he
  ·cases he
  ·rename_i c
   rw[if_neg c,e8Z he,if_neg c1,if_neg c5,if_pos c6]
   have hne:vs.map f2K≠[]:=by
    intro e
    have e2:vs=[]:=by simpa using e
    rw[e2] at h
    have:=h.len
    rw[c6] at hB
    unfold opB at hB
    simp at hB this
    omega
   exact f3X (f3Z hΦ hv hne hs h.fsts) f3R
 rw[if_neg c6] at he ⊢
 by_cases c7:op=7
 ·rw[if_pos c7] at he ⊢
  rw[if_neg c1,if_neg c5,if_neg c6,if_pos c7]
  simp only at he ⊢
  unfold d3T at he ⊢
  match ts,h,he,hl with
  |[],_,he,_=>cases he
  |a::r,h,he,hl =>
   simp only at he ⊢
   cases hg:d3S a (a::r) a with
   |none=>rw[hg] at he;cases he
   |some x =>
    have hlen:=h.len
    refine⟨hs,.refl s,⟨by simp only;omega,by simp only;omega,?_,h.fsts,(f3V h)⟩⟩
    show(((vs.map f2K).length:Nat):Int)=_
    rw[g5Y,hlen]
    unfold e8S
    rw[if_neg (by simp only[g5X];omega)]
 rw[if_neg c7] at he ⊢
 by_cases c20:op=20
 ·rw[if_pos c20] at he ⊢
  rw[if_neg c1,if_neg c5,if_neg c6,if_neg c7,if_pos c20]
  simp only at he ⊢
  have h3:ts.length=3:=by
   subst c20
   unfold opB at hB
   simp at hB
   omega
  have v1:=h.at 1 (by omega)
  have v2:=h.at 2 (by omega)
  have fin:∀ n,VcOk s.b.vars n (vs.getD 1 zVc)->VcOk s.b.vars n (vs.getD 2 zVc)->Ro s n (f2W Φ (f2K (vs.getD 0 zVc)) (vs.getD 1 zVc) (vs.getD 2 zVc) s):=by
   intro n x1 x2
   have hll:(vs.getD 1 zVc).els.length=(vs.getD 2 zVc).els.length:=by have:=x1.len;have:=x2.len;omega
   obtain⟨b1,b2,b3,b4⟩:=f4G hΦ (f2K (vs.getD 0 zVc)) _ _ s hll hs x1.els x2.els
   refine⟨b1,b2,⟨x1.n0,x1.n1,?_,b4,?_⟩⟩
   ·show(((f2V Φ (f2K (vs.getD 0 zVc)) (vs.getD 1 zVc).els (vs.getD 2 zVc).els s).1.length:Nat):Int)=_
    rw[b3];exact x1.len
   ·show TyG (f2P [vs.getD 1 zVc,vs.getD 2 zVc])
    unfold f2P
    split
    ·exact x1.ty
    ·exact f3R
  unfold d3U at he ⊢
  split at he
  ·cases he
  ·rename_i ca
   rw[if_neg ca]
   split at he
   ·rename_i cb
    rw[if_pos cb]
    rw[<-cb] at v2
    exact fin _ v1 v2
   ·rename_i cb
    rw[if_neg cb]
    split at he
    ·rename_i cc
     rw[if_pos cc]
     simp only[g4S,d3N,g7L] at cc
     rw[cc.1] at v1
     rw[cc.2] at v2
     exact fin 0 v1 v2
    ·cases he
 rw[if_neg c20] at he ⊢
 by_cases c14:op=14\/op=15
 ·rw[if_pos c14] at he ⊢
  simp only at he ⊢
  rw[e8Z he]
  exact tru c1 c5 c6 c7 c20 (by omega) (by omega)
 rw[if_neg c14] at he ⊢
 by_cases c16:op=16\/op=17
 ·rw[if_pos c16] at he ⊢
  rw[e9A he,if_neg c1,if_neg c5,if_neg c6,if_neg c7,if_neg c20,if_neg (by omega),if_pos c16]
  have h3:ts.length=2:=by
   unfold opB at hB
   rcases c16 with rfl|rfl <;> simp at hB <;> omega
  have v0:=(h.at 0 (by omega)).ty
  have v1:=(h.at 1 (by omega)).ty
  refine f3X (f4D hΦ op ?_ hs) f3S
  unfold mx
  split
  ·exact v1.1
  ·exact v0.1
 rw[if_neg c16] at he ⊢
 by_cases c10:op=10\/op=18\/op=19
 ·rw[if_pos c10] at he ⊢
  simp only at he ⊢
  rw[e8Z he]
  exact tru c1 c5 c6 c7 c20 (by omega) (by omega)
 rw[if_neg c10] at he ⊢
 simp only at he ⊢
 rw[e8Z he]
 have h9:op=9\/op=11\/op=12\/op=13:=by
  have hB':(decide (op=9\/op=11\/op=12\/op=13))=true:=by
   unfold opB at hB
   rw[if_neg c1,if_neg h2,if_neg c3,if_neg c5,if_neg c6,if_neg c7] at hB
   by_cases d9:op=9
   ·simp [d9]
   ·by_cases d11:op=11\/op=12\/op=13
    ·simp [d9,d11]
    ·rw[if_neg (by omega),if_neg c20,if_neg (by omega)] at hB
     cases hB
  simpa using hB'
 rw[if_neg c1,if_neg c5,if_neg c6,if_neg c7,if_neg c20,if_pos h9]
 exact f3X (f4B hΦ op hs h.fsts) f3R
end Go.Ky

/- KX 86: expressions, statements, functions, inputs: what the compiler makes of what the checker lets through. -/
namespace Go.Ky
open Go.Pi Go.Lx
theorem f4I {Φ:Fo} {Ψ:Fc} {fs:Fs} {ns:Ns} {sc:Sx}:∀ (l:List Exp),(∀ e,e∈l->∀ w s,CsOk s->ScC s.b.vars ns sc->(exM fs ns e w).1.2=0->Ro s (exM fs ns e w).1.1.len (evC Φ Ψ sc e s))->∀ w s,CsOk s->ScC s.b.vars ns sc->(d3Y fs ns l w).1.2=0 ->
  CsOk (f2Y Φ Ψ sc l s).2/\Cle s (f2Y Φ Ψ sc l s).2/\VsC (f2Y Φ Ψ sc l s).2.b.vars (d3Y fs ns l w).1.1 (f2Y Φ Ψ sc l s).1:=by
 intro l
 induction l with
 |nil=>intro _ w s hs _ _;rw[d3Y,f2Y];exact⟨hs,.refl s,True.intro⟩
 |cons a r ih =>
  intro h w s hs hsc
  rw[d5Y,f2Y]
  split
  ·intro h;contradiction
  ·rename_i h1
   split
   ·intro h;contradiction
   ·rename_i h2
    intro _
    have ha:=h a (by simp) w s hs hsc (by simpa using h1)
    obtain⟨b1,b2,b3⟩:=ih (λx hx=>h x (by simp [hx])) _ _ ha.cs (hsc.mono ha.le.vars) (by simpa using h2)
    exact⟨b1,ha.le.trans b2,ha.v.mono b2.vars,b3⟩
theorem f4J {Φ:Fo} (hΦ:Φ.Ok) {Ψ:Fc} {fs:Fs} (hΨ:FcOk fs Ψ) {ns:Ns} {sc:Sx}:∀ e,ExpOk e->szE e<=B20->exB e=true->∀ w s,CsOk s->ScC s.b.vars ns sc->(exM fs ns e w).1.2=0->Ro s (exM fs ns e w).1.1.len (evC Φ Ψ sc e s):=by
 refine Exp.ind λe ih hx hsz hB w s hs hsc he=>?_
 obtain⟨x1,x2,x3⟩:=e9C hx
 obtain⟨z1,z2⟩:=d6A hsz
 obtain⟨b1,b2⟩:=e9D hB
 by_cases h8:e.op=8
 ·rw[d3Z,if_pos h8] at he ⊢
  rw[f2Z,if_neg (by omega),if_pos h8]
  match hl:e.args with
  |[]=>rw[hl] at he;cases he
  |[a]=>rw[hl] at he;cases he
  |a::b::r =>
   rw[hl] at he
   simp only at he ⊢
   obtain⟨i1,i2,i3,i4⟩:=e9E he
   rw[i4]
   have ha:a∈e.args:=by rw[hl];simp
   have:=ih a ha (x3 a ha) (z2 a ha) (b1 a ha) w s hs hsc i1
   exact⟨this.cs,this.le,.one (f3U this.v.els _) this.v.ty⟩
 ·rw[d3Z,if_neg h8] at he ⊢
  simp only at he ⊢
  have hss:=f4I (Φ:=Φ) (Ψ:=Ψ) (sc:=sc) (fs:=fs) (ns:=ns) e.args (λa ha w s=>ih a ha (x3 a ha) (z2 a ha) (b1 a ha) w s) w s hs hsc
  by_cases c:(d3Y fs ns e.args w).1.2≠0
  ·rw[if_pos c] at he;exact absurd he c
  rw[if_neg c] at he ⊢
  have hss:=hss (by simpa using c)
  have hlen:=e9B fs ns e.args w (by simpa using c)
  by_cases h2:e.op=2
  ·rw[f2Z,if_pos h2]
   unfold opM at he ⊢
   rw[if_neg (by omega),if_neg (by omega),if_pos h2] at he ⊢
   simp only at he ⊢
   cases hk:look e.name ns with
   |none=>rw[hk] at he;cases he
   |some t =>
    obtain⟨v,k1,k2,_⟩:=hsc _ _ hk
    simp only
    unfold lkC
    rw[k1]
    exact⟨hs,.refl s,k2⟩
  ·rw[f2Z,if_neg h2,if_neg h8]
   obtain⟨c1,c2,c3⟩:=hss
   have:=f4H hΦ hΨ (ns:=ns) (w:=(d3Y fs ns e.args w).2) c1 x1 h2 h8 (by omega) (by rw[hlen];exact b2) c3 he
   exact⟨this.cs,c2.trans this.le,this.v⟩
def erV (v:Vc):Vl:=⟨v.els.map λ_=>0,false,v.num⟩
def erS (sc:Sx):Sc:=sc.map λx=>(x.1,erV x.2)
theorem f4K (k:Nm) (sc:Sx):look k (erS sc)=(look k sc).map erV:=by
 induction sc with
 |nil=>rfl
 |cons x r ih =>
  obtain⟨j,v⟩:=x
  show look k ((j,erV v)::erS r)=_
  rw[look,look,ih]
  split <;> rfl
theorem f4L {m n:Int} {v:Vc} (h:VcOk m n v):VOk n (erV v):=⟨h.n0,Int.le_trans h.n1 (by decide),by rw[<-h.len];simp [erV],λx hx=>by
 obtain⟨_,_,rfl⟩:=List.mem_map.1 hx
 exact Int.le_refl _⟩
theorem f4M {m:Int} {ns:Ns} {sc:Sx} (h:ScC m ns sc):ScOk ns (erS sc):=λnm s hs=>by
 obtain⟨v,h1,h2,h3⟩:=h nm s hs
 exact⟨erV v,by rw[f4K,h1];rfl,f4L h2,h3⟩
theorem f4N (nm:Nm) (sc:Sx):(lkV nm (erS sc)).num=(lkC nm sc).num:=by
 unfold lkV lkC
 rw[f4K]
 cases look nm sc <;> rfl
theorem f4O (b:Exp) (sc:Sx):e8O b (erS sc)=f2X b sc:=by
 unfold e8O f2X
 rw[f4N,f4N]
theorem f4P {m:Int} {ns:Ns} {sc:Sx} (hsc:ScC m ns sc) {b:Exp} {n:Int} (hb:ExpOk b) (h0:0<=n) (h1:n<=B20) (h:d3W ns b n=(true,0)):0<=f2X b sc/\f2X b sc < n:=by
 rw[<-f4O]
 exact e9F (f4M hsc) hb h0 (Int.le_trans h1 (by decide)) h
theorem ScC.sub {m:Int} {ns r:Ns} {sc:Sx} (h:ScC m (ns++r) sc):ScC m ns sc:=by
 intro nm s hs
 refine h nm s ?_
 rw[d5B,hs]
theorem ScC.new {m:Int} {ns:Ns} {sc:Sx} (h:ScC m ns sc) {nm:Nm} (hn:look nm ns=none) {s:Sy} {v:Vc} (hv:VcOk m s.typ.len v) (hl:s.loop=true->0<=s.low/\s.high<=1000000/\s.low<=v.num/\v.num < s.high):ScC m (ns++[(nm,s)]) (e8L nm v sc):=by
 intro k t ht
 rw[d5B] at ht
 rw[e8T]
 by_cases hk:k=nm
 ·subst hk
  rw[hn] at ht
  simp only[e9G] at ht
  rw[if_pos rfl]
  have:t=s:=by simpa using ht.symm
  subst this
  exact⟨v,rfl,hv,hl⟩
 ·rw[if_neg hk]
  cases hb:look k ns with
  |some x =>
   rw[hb] at ht
   have:x=t:=by simpa using ht
   subst this
   exact h k x hb
  |none =>
   rw[hb] at ht
   simp only[e9H hk] at ht
   cases ht
theorem f4Q {Φ:Fo} {x:Li} {t:Ty} {s:Cst} (hs:CsOk s) (ht:t.kind=3->0<=t.bits/\t.bits<=62):CsOk (f3A Φ x t s)/\Cle s (f3A Φ x t s):=by
 unfold f3A
 split
 ·exact f3P hs (f1J x s.b) (Int.le_refl _) (by decide)
 split
 ·rename_i h
  obtain⟨h1,h2⟩:=ht h
  exact f3P (g:=λb=>(f0V Φ x t.bits b).2) hs (f1L Φ x h1 h2 s.b) (Int.le_refl _) (by omega)
 ·exact⟨hs,.refl s⟩
structure So (s:Cst) (ns:Ns) (q:Sx×Cst):Prop where
 cs:CsOk q.2
 le:Cle s q.2
 sc:q.2.full=true\/ScC q.2.b.vars ns q.1
theorem f4R {f:Int->Sx->Cst->Sx×Cst} {ns:Ns} {lo hi:Int} (h:∀ n sc s,lo<=n->n < hi->s.full=false->CsOk s->ScC s.b.vars ns sc->So s ns (f n sc s)):∀ (k:Nat) (n:Int) (sc:Sx) (s:Cst),lo<=n->n+k<=hi->CsOk s->(s.full=true\/ScC s.b.vars ns sc)->So s ns (itC f k n sc s):=by
 intro k
 induction k with
 |zero=>intro n sc s _ _ hs hp;rw[itC];exact⟨hs,.refl s,hp⟩
 |succ k ih =>
  intro n sc s h1 h2 hs hp
  rw[itC]
  cases hb:s.full with
  |true=>rw[if_pos rfl];exact⟨hs,.refl s,.inl hb⟩
  |false =>
   rw[if_neg (show ¬(false=true) by decide)]
   have hf:=h n sc s h1 (by omega) hb hs (hp.resolve_left (by rw[hb];simp))
   have:=ih (n+1) _ _ (by omega) (by omega) hf.cs hf.sc
   exact⟨this.cs,hf.le.trans this.le,this.sc⟩
theorem f4S {Φ:Fo} {Ψ:Fc} {fs:Fs}:∀ (l:List St),(∀ x,x∈l->∀ ns sc w s,s.full=false->CsOk s->ScC s.b.vars ns sc->(stM fs x ns w).1=0->So s (stM fs x ns w).2.1 (stC Φ Ψ x sc s)) ->
  ∀ ns sc w s,CsOk s->(s.full=true\/ScC s.b.vars ns sc)->(d4C fs l ns w).1=0->So s (d4C fs l ns w).2.1 (f3C Φ Ψ l sc s):=by
 intro l
 induction l with
 |nil=>intro _ ns sc w s hs h _;rw[d4C,f3C];exact⟨hs,.refl s,h⟩
 |cons x r ih =>
  intro h ns sc w s hs hsc
  cases hb:s.full with
  |true =>
   rw[f3J Φ Ψ _ sc hb]
   exact λ_=>⟨hs,.refl s,.inl hb⟩
  |false =>
   rw[d6G,f3K Φ Ψ x r sc hb]
   by_cases h1:(stM fs x ns w).1≠0
   ·rw[if_pos h1];intro h;exact absurd h h1
   ·rw[if_neg h1]
    intro h2
    have h3:=h x (by simp) ns sc w s hb hs (hsc.resolve_left (by rw[hb];simp)) (by simpa using h1)
    have:=ih (λy hy=>h y (by simp [hy])) _ _ _ _ h3.cs h3.sc h2
    exact⟨this.cs,h3.le.trans this.le,this.sc⟩
theorem f4T {Φ:Fo} {typed:Bool} {ty:Ty} {s:Cst} {n:Int} {q:Vc×Cst} (h:Ro s n q) (ht:typed=true->n=ty.len/\tyB ty=true):Ro s n (f3B Φ typed ty q):=by
 unfold f3B
 cases typed with
 |false=>rw[if_neg (by simp)];exact h
 |true =>
  rw[if_pos rfl]
  obtain⟨h1,h2⟩:=ht rfl
  by_cases c:ty.len=0
  ·rw[if_pos c]
   obtain⟨a,b⟩:=f4Q (Φ:=Φ) (x:=f2K q.1) (t:=ty) h.cs (e9X h2)
   have hv:=h.v.mono b.vars
   exact⟨a,h.le.trans b,⟨hv.n0,hv.n1,hv.len,hv.els,f3Q h2⟩⟩
  ·rw[if_neg c]
   exact⟨h.cs,h.le,⟨h.v.n0,h.v.n1,h.v.len,h.v.els,f3Q h2⟩⟩
theorem f4U {Φ:Fo} (hΦ:Φ.Ok) {Ψ:Fc} {fs:Fs} {x:St} (h3:x.kind=3) (hB:stB x=true) {ns:Ns} {w:Int} (he:(stM fs x ns w).1=0)
  (hbody:∀ ns sc w s,CsOk s->(s.full=true\/ScC s.b.vars ns sc)->(d4C fs x.body ns w).1=0->So s (d4C fs x.body ns w).2.1 (f3C Φ Ψ x.body sc s)) {sc:Sx} {s:Cst} (hs:CsOk s) {n:Int} (h:ScC s.b.vars ns sc) (n1:x.lo<=n) (n2:n < x.hi) :
  ScC s.b.vars (ns++[(x.name,⟨fieldT,true,x.lo,x.hi⟩)]) (e8L x.name ⟨[f0G Φ n],fieldT,n⟩ sc)/\So s ns (f3C Φ Ψ x.body (e8L x.name ⟨[f0G Φ n],fieldT,n⟩ sc) s):=by
 obtain⟨hnew,l1,l2,l3,hb⟩:=e9Y h3 hB he
 have hp1:ScC s.b.vars (ns++[(x.name,⟨fieldT,true,x.lo,x.hi⟩)]) (e8L x.name ⟨[f0G Φ n],fieldT,n⟩ sc) :=
  h.new hnew (s:=⟨fieldT,true,x.lo,x.hi⟩) (v:=⟨[f0G Φ n],fieldT,n⟩) ⟨Int.le_refl _,(by decide:(0:Int)<=B20),rfl,λy hy=>by
   have:y=f0G Φ n:=by simpa using hy
   rw[this];exact .const hΦ.nn hs.b.pos (by omega),f3R⟩ (λ_=>⟨l1,l3,n1,n2⟩)
 refine⟨hp1,?_⟩
 have h:=hbody _ _ w s hs (.inr hp1) hb
 refine⟨h.cs,h.le,?_⟩
 rcases h.sc with h|h
 ·exact .inl h
 ·obtain⟨r,e,_⟩:=d6H fs x.body _ w hb
  rw[e,g5B] at h
  exact .inr h.sub
theorem f4V {Φ:Fo} (hΦ:Φ.Ok) {Ψ:Fc} {fs:Fs} (hΨ:FcOk fs Ψ):∀ x,StOk x->szS x<=B20->stB x=true->∀ ns sc w s,s.full=false->CsOk s->ScC s.b.vars ns sc->(stM fs x ns w).1=0->So s (stM fs x ns w).2.1 (stC Φ Ψ x sc s):=by
 refine St.ind λx ih hx hsz hB ns sc w s hfu hs hsc he=>?_
 by_cases h3:x.kind=3
 ·have hb:=d6N hB h3
  have hxb:=d6P hx
  have hbody:=f4S (Φ:=Φ) (Ψ:=Ψ) (fs:=fs) x.body (λb hb'=>ih b hb' (hxb b hb') ((d6L hsz).2 b hb') (hb b hb'))
  obtain⟨hnew,l1,l2,l3,hbz⟩:=e9Y h3 hB he
  have hns:(stM fs x ns w).2.1=ns:=by
   rw[d6J h3,if_neg (by omega)] at he ⊢
   by_cases c1:(d4A x.name ⟨fieldT,true,x.lo,x.hi⟩ ns w).1≠0
   ·rw[if_pos c1] at he;exact absurd he c1
   rw[if_neg c1] at he ⊢
   by_cases c2:(d4C fs x.body (d4A x.name ⟨fieldT,true,x.lo,x.hi⟩ ns w).2.1 (d4A x.name ⟨fieldT,true,x.lo,x.hi⟩ ns w).2.2).1≠0
   ·rw[if_pos c2] at he;exact absurd he c2
   rw[if_neg c2]
  rw[hns,f3D,if_neg (by omega),if_neg (by omega),if_pos h3]
  by_cases hid:idS x=true
  ·rw[if_pos hid];exact⟨hs,.refl s,.inr hsc⟩
  rw[if_neg hid]
  exact f4R (ns:=ns) (lo:=x.lo) (hi:=x.hi) (λn sc1 s1 n1 n2 f1 hs1 hp=>(f4U hΦ h3 hB he hbody hs1 hp n1 n2).2) _ _ _ _ (Int.le_refl _) (by omega) hs (.inr hsc)
 ·have hbx:=d6M hB h3
  have hxx:=d6O hx
  have hE:=e9V h3 he
  have hv:=f4J hΦ hΨ (sc:=sc) x.ex hxx (g6V (d2P x) hsz) hbx w s hs hsc hE
  rw[d6K h3,if_neg (by simpa using hE)] at he ⊢
  by_cases h2:x.kind=2
  ·rw[if_pos h2]
   rw[f3D,if_neg (show ¬x.kind=1 by omega),if_pos h2]
   obtain⟨a,b⟩:=f3P (n:=1) hv.cs (f1I Φ (f2K (evC Φ Ψ sc x.ex s).1) (f0G Φ 1) (evC Φ Ψ sc x.ex s).2.b) (Int.le_refl _) (by decide)
   exact⟨a,hv.le.trans b,.inr (hsc.mono (hv.le.trans b).vars)⟩
  have he0:=he
  rw[if_neg h2] at he ⊢
  have h1:=e9L hB h3 h2
  rw[f3D,if_pos h1]
  by_cases ht:x.typed=true
  ·have hst:=e9W (fs:=fs) (ns:=ns) (w:=w) h3 h2 ht hB (by rw[d6K h3,if_neg (by simpa using hE)];exact he0)
   have hl:=f4T (Φ:=Φ) (typed:=x.typed) (ty:=x.ty) hv (λ_=>hst)
   rw[if_pos ht] at he ⊢
   split at he
   ·cases he
   ·rename_i c
    rw[if_neg c]
    have hnew:=e9I he
    rw[d6E he]
    have hl2:=hl.v
    rw[hst.1] at hl2
    exact⟨hl.cs,hl.le,.inr ((hsc.mono hl.le.vars).new hnew (s:=⟨x.ty,false,0,0⟩) hl2 (λh=>by cases h))⟩
  ·have hl:=f4T (Φ:=Φ) (typed:=x.typed) (ty:=x.ty) hv (λh=>absurd h ht)
   rw[if_neg ht] at he ⊢
   have hnew:=e9I he
   rw[d6E he]
   exact⟨hl.cs,hl.le,.inr ((hsc.mono hl.le.vars).new hnew (s:=⟨(exM fs ns x.ex w).1.1,false,0,0⟩) hl.v (λh=>by cases h))⟩
theorem f4W {m:Int}:∀ (ps:List Pa) (vs:List Vc) (ns:Ns) (sc:Sx) (w:Int),(∀ p,p∈ps->tyB p.ty=true)->PsC m ps vs->ScC m ns sc->(d4F ps ns w).1=0->ScC m (d4F ps ns w).2.1 (f3E ps vs sc)
 |[],[],ns,sc,w,_,_,h,_=>by rw[d4F,f3E];exact h;all_goals simp
 |p::ps,v::vs,ns,sc,w,hty,hp,h,he=>by
  rw[d6Q] at he ⊢
  split at he
  ·contradiction
  ·rename_i c
   rw[if_neg c]
   have c':(d4A p.name ⟨p.ty,false,0,0⟩ ns w).1=0:=by simpa using c
   rw[f3E]
   have hn:=e9I c'
   rw[d6E c'] at he ⊢
   exact f4W ps vs _ _ w (λq hq=>hty q (by simp [hq])) hp.2 (h.new hn (s:=⟨p.ty,false,0,0⟩) (v:=⟨v.els,p.ty,0⟩) ⟨hp.1.n0,hp.1.n1,hp.1.len,hp.1.els,f3Q (hty p (by simp))⟩ (λh=>by cases h)) he
 |[],v::vs,_,_,_,_,h,_,_=>h.elim
 |p::ps,[],_,_,_,_,h,_,_=>h.elim
theorem ScC.nil (m:Int):ScC m [] []:=λnm s h=>by cases h
theorem f4X {f:Fu} (h:fuB f=true):∀ p,p∈f.params->tyB p.ty=true:=by
 unfold fuB at h
 simp only[g4S,g5A] at h
 intro p hp
 have:=h.1.1.1.2 p hp
 unfold paB at this
 simp only[g4S] at this
 exact this.2
theorem f4Y {Φ:Fo} (hΦ:Φ.Ok) {Ψ:Fc} {fs:Fs} (hΨ:FcOk fs Ψ) {f:Fu} (hx:FuOk f) (hB:fuB f=true) (hbs:d2G f.body<=B20) (hrs:szE f.ret<=B20) {w:Int} (h:(d4G fs f w).1=0) {vs:List Vc} {s:Cst} (hs:CsOk s) (hp:PsC s.b.vars f.params vs):Ro s f.res.len (f3F Φ Ψ f vs s):=by
 obtain⟨b1,b2,b3⟩:=e9N hB
 obtain⟨h1,h2,h3,h4,h5,h6⟩:=e9M h
 obtain⟨r1,r2⟩:=e9J b1
 have hsc:=f4W f.params vs [] [] w (f4X hB) hp (.nil _) h3
 have hst:=f4S (Φ:=Φ) (Ψ:=Ψ) (fs:=fs) f.body (λx hx'=>f4V hΦ hΨ x (hx.bo x hx') (g6V (d2M hx') hbs) (b2 x hx')) _ _ _ s hs (.inr hsc) h4
 unfold f3F
 simp only
 cases c:(f3C Φ Ψ f.body (f3E f.params vs []) s).2.full with
 |true =>
  rw[if_pos rfl]
  have hl:0<=e8S f.res.len:=by unfold e8S;split <;> omega
  refine⟨hst.cs,hst.le,⟨r1,by show f.res.len<=1100000;omega,?_,λx hx=>by rw[List.eq_of_mem_replicate hx];exact .nil _,f3Q b1⟩⟩
  show(((List.replicate _ f0E).length:Nat):Int)=_
  rw[List.length_replicate]
  omega
 |false =>
  rw[if_neg (by simp)]
  have hsc2:=hst.sc.resolve_left (by rw[c];simp)
  have:=f4J hΦ hΨ f.ret hx.ret hrs b3 _ _ hst.cs hsc2 h5
  rw[e9K h6] at this
  exact⟨this.cs,hst.le.trans this.le,⟨this.v.n0,this.v.n1,this.v.len,this.v.els,f3Q b1⟩⟩
theorem f4Z {Φ:Fo} (hΦ:Φ.Ok) {Ψ:Fc} {fs:Fs} (hΨ:FcOk fs Ψ) {f:Fu} (hx:FuOk f) (hB:fuB f=true) (hbs:d2G f.body<=B20) (hrs:szE f.ret<=B20) {w:Int} (h:(d4G fs f w).1=0):FcOk (fs++[(f.name,f)]) (fcS Φ f Ψ):=by
 obtain⟨h1,h2,h3⟩:=e9M h
 intro nm g hg vs s hs hp
 rw[d5B] at hg
 unfold fcS
 by_cases hk:nm=f.name
 ·subst hk
  rw[h1] at hg
  simp only[e9G] at hg
  rw[if_pos rfl]
  have:f=g:=by simpa using hg
  subst this
  exact f4Y hΦ hΨ hx hB hbs hrs h hs hp
 ·rw[if_neg hk]
  cases hb:look nm fs with
  |some y =>
   rw[hb] at hg
   have:y=g:=by simpa using hg
   subst this
   exact hΨ nm y hb vs s hs hp
  |none =>
   rw[hb] at hg
   simp only[e9H hk] at hg
   cases hg
theorem f5A {Φ:Fo} (hΦ:Φ.Ok):∀ (l:List Fu) (Ψ:Fc) (fs:Fs) (w:Int),FcOk fs Ψ->(∀ f,f∈l->FuOk f/\fuB f=true/\d2G f.body<=B20/\szE f.ret<=B20)->(d4H l fs w).1=0->FcOk (d4H l fs w).2.1 (f3G Φ l Ψ):=by
 intro l
 induction l with
 |nil=>intro Ψ fs w h _ _;rw[d4H,f3G];exact h
 |cons f r ih =>
  intro Ψ fs w h hl he
  rw[d6W] at he ⊢
  by_cases c:(d4G fs f w).1≠0
  ·rw[if_pos c] at he;exact absurd he c
  rw[if_neg c] at he ⊢
  have c':(d4G fs f w).1=0:=by simpa using c
  have h2:=f4Z hΦ h (hl f (by simp)).1 (hl f (by simp)).2.1 (hl f (by simp)).2.2.1 (hl f (by simp)).2.2.2 c'
  rw[<-(e9M c').2.1] at h2
  rw[f3G]
  exact ih _ _ _ h2 (λx hx=>hl x (by simp [hx])) he
theorem FcOk.nil:FcOk [] fc0:=λnm f h=>by cases h
theorem f5B {Φ:Fo} (hΦ:Φ.Ok) {t:Ty} (ht:tyB t=true):∀ (k:Nat) (i:Int) (ls:List Li) (s:Cst),CsOk s->0<=i->i+k<=s.b.pub+s.b.sec->(∀ x,x∈ls->LiOk s.b.vars x)->CsOk (f3H Φ t k i ls s).2/\Cle s (f3H Φ t k i ls s).2/\(f3H Φ t k i ls s).1.length=ls.length+k/\∀ x,x∈(f3H Φ t k i ls s).1->LiOk (f3H Φ t k i ls s).2.b.vars x
 |0,i,ls,s,hs,_,_,hl=>by rw[f3H];exact⟨hs,.refl s,rfl,hl⟩
 |k+1,i,ls,s,hs,h0,h1,hl=>by
  rw[f3H]
  obtain⟨a,b⟩:=f4Q (Φ:=Φ) (x:=f0H Φ (1+i)) (t:=t) hs (e9X ht)
  have hvar:LiOk s.b.vars (f0H Φ (1+i)):=.var hΦ.nn (by omega) (by have:=hs.b.vars;omega)
  obtain⟨c1,c2,c3,c4⟩:=f5B hΦ ht k (i+1) (ls++[f0H Φ (1+i)]) _ a (by omega) (by rw[b.pub,b.sec];omega) (λx hx=>by
   rcases g6G.1 hx with hx|hx
   ·exact(hl x hx).mono b.vars
   ·rw[g6M.1 hx];exact hvar.mono b.vars)
  exact⟨c1,b.trans c2,by rw[c3,g5W,List.length_singleton];omega,c4⟩
theorem f5C {Φ:Fo} (hΦ:Φ.Ok):∀ (l:List De) (a c:Int) (ns:Ns) (sc:Sx) (s:Cst) (w:Int),(∀ d,d∈l->tyB d.ty=true)->CsOk s->ScC s.b.vars ns sc->(d4I l ns w).1=0->0<=a->0<=c->a+(e9O l true:Int)<=s.b.pub+s.b.sec->c+(e9O l false:Int)<=s.b.pub+s.b.sec ->
  CsOk (inC Φ l a c sc s).2/\Cle s (inC Φ l a c sc s).2/\ScC (inC Φ l a c sc s).2.b.vars (d4I l ns w).2.1 (inC Φ l a c sc s).1:=by
 intro l
 induction l with
 |nil=>intro a c ns sc s w _ hs h _ _ _ _ _;rw[inC,d4I];exact⟨hs,.refl s,h⟩
 |cons d r ih =>
  intro a c ns sc s w hl hs h he ha hc h1 h2
  have hdt:=hl d (by simp)
  obtain⟨t1,t2⟩:=e9J hdt
  have hm2:1<=e8S d.ty.len/\e8S d.ty.len<=64:=by unfold e8S;split <;> omega
  rw[d6S] at he ⊢
  by_cases e:(d4A d.name ⟨d.ty,false,0,0⟩ ns w).1≠0
  ·rw[if_pos e] at he;exact absurd he e
  rw[if_neg e] at he ⊢
  have e':(d4A d.name ⟨d.ty,false,0,0⟩ ns w).1=0:=by simpa using e
  have hn:=e9I e'
  rw[d6E e'] at he ⊢
  rw[inC]
  simp only at he ⊢
  rw[e9O] at h1 h2
  have hst:0<=(if d.pub then a else c)/\(if d.pub then a else c)+((e8S d.ty.len).toNat:Int)<=s.b.pub+s.b.sec:=by
   cases hp:d.pub with
   |true=>rw[hp] at h1;simp only[if_true] at h1 ⊢;exact⟨ha,by omega⟩
   |false=>rw[hp] at h2;simp only[if_true,g4T,if_false] at h2 ⊢;exact⟨hc,by omega⟩
  obtain⟨c1,c2,c3,c4⟩:=f5B hΦ hdt (e8S d.ty.len).toNat (if d.pub then a else c) [] s hs hst.1 hst.2 (λx hx=>by cases hx)
  have hnew:=(h.mono c2.vars).new hn (s:=⟨d.ty,false,0,0⟩) (v:=⟨(f3H Φ d.ty (e8S d.ty.len).toNat (if d.pub then a else c) [] s).1,d.ty,0⟩) ⟨t1,by show d.ty.len<=1100000;omega,by
   show(((f3H Φ d.ty (e8S d.ty.len).toNat (if d.pub then a else c) [] s).1.length:Nat):Int)=e8S d.ty.len
   rw[c3];simp;omega,c4,f3Q hdt⟩ (λh=>by cases h)
  obtain⟨g1,g2,g3⟩:=ih (if d.pub then a+((e8S d.ty.len).toNat:Int) else a) (if d.pub then c else c+((e8S d.ty.len).toNat:Int)) _ _ _ (d4B d.ty w) (λx hx=>hl x (by simp [hx])) c1 hnew he (by split <;> omega) (by split <;> omega) (by rw[c2.pub,c2.sec];cases hp:d.pub <;> rw[hp] at h1 <;> simp at h1 ⊢ <;> omega) (by rw[c2.pub,c2.sec];cases hp:d.pub <;> rw[hp] at h2 <;> simp at h2 ⊢ <;> omega)
  exact⟨g1,c2.trans g2,g3⟩
end Go.Ky

/- KX 87: a circuit's builder in the store: its cells, the buffers of its rows and hints; what a gadget a2G as it was. -/
namespace Go.Ky
open Go.Pi Go.Lx
def Mv (h h':List Nat) (sg sg':Sg):Prop:=sg.length<=sg'.length/\(∀ i,i < sg.length->i ∉ h->sg'[i]?=sg[i]?)/\∀ i,i∈h'->i∈h\/sg.length<=i
theorem Mv.refl (h:List Nat) (sg:Sg):Mv h h sg sg:=⟨g6U _,λ_ _ _=>rfl,λ_ h=>.inl h⟩
theorem Mv.trans {h h' h'':List Nat} {x y z:Sg} (a:Mv h h' x y) (b:Mv h' h'' y z):Mv h h'' x z:=by
 refine⟨g6V a.1 b.1,λi hi hn=>?_,λi hi=>?_⟩
 ·rw[b.2.1 i (g6W hi a.1) (λe=>by
   rcases a.2.2 i e with e|e
   ·exact hn e
   ·omega)]
  exact a.2.1 i hi hn
 ·rcases b.2.2 i hi with e|e
  ·exact a.2.2 i e
  ·exact .inr (g6V a.1 e)
theorem Mv.app (h:List Nat) (sg r:Sg):Mv h h sg (sg++r):=⟨by simp,λi hi _=>g5J hi,λ_ h=>.inl h⟩
theorem Mv.grow {h:List Nat} {sg sg':Sg} (hg:Grow sg sg'):Mv h h sg sg':=by
 obtain⟨r,rfl⟩:=hg
 exact .app h sg r
theorem Mv.get {h h':List Nat} {x y:Sg} (a:Mv h h' x y) {i:Nat} {v:Bool×List PV} (hi:x[i]?=some v) (hn:i ∉ h):y[i]?=some v:=by
 rw[a.2.1 i (d4U hi) hn];exact hi
theorem Mv.cold {h h':List Nat} {x y:Sg} (a:Mv h h' x y) {i:Nat} (hi:i < x.length) (hn:i ∉ h):i ∉ h':=λe=>by
 rcases a.2.2 i e with e|e
 ·exact hn e
 ·omega
theorem Mv.cons {h h':List Nat} {x y:Sg} (a:Mv h h' x y) (c:Nat):Mv (c::h) (c::h') x y:=by
 refine⟨a.1,λi hi hn=>a.2.1 i hi λe=>hn (by simp [e]),λi hi=>?_⟩
 rcases g6H.1 hi with e|e
 ·exact .inl (by simp [e])
 ·rcases a.2.2 i e with e|e
  ·exact .inl (by simp [e])
  ·exact .inr e
theorem Mv.set {h h':List Nat} {x y:Sg} (a:Mv h h' x y) {i:Nat} (hi:i∈h\/x.length<=i) (v:Bool×List PV):Mv h h' x (y.set i v):=by
 refine⟨by simpa using a.1,λj hj hn=>?_,a.2.2⟩
 rw[g5S (λe=>by
  subst e
  rcases hi with hi|hi
  ·exact hn hi
  ·omega)]
 exact a.2.1 j hj hn
theorem Mv.app2 {h h':List Nat} {x y:Sg} (a:Mv h h' x y) (r:Sg):Mv h h' x (y++r):=a.trans (.app _ _ _)
theorem Mv.sub {h k h':List Nat} {x y:Sg} (a:Mv h h' x y) (hk:∀ i,i∈h->i∈k):Mv k h' x y :=
 ⟨a.1,λi hi hn=>a.2.1 i hi λe=>hn (hk i e),λi hi=>(a.2.2 i hi).imp (hk i) id⟩
def tTs (l:List (Int×Int)):List (List T):=l.map λt=>[.int .i64 t.1,.int .u64 t.2]
abbrev tLi (l:Li):T:=.sl l.nl (tTs l.ts)
def tLs (l:List Li):List (List T):=l.map λx=>[tLi x]
abbrev cRw (r:Rw):List PV:=[.t (tLi r.a),.t (tLi r.b),.t (tLi r.c)]
abbrev cHt (h:Ht):List PV:=[.t (.int .i64 h.kind),.t (tLi h.a),.t (tLi h.b),.t (.int .i64 h.bit)]
abbrev tHt (h:Ht):List T:=[.int .i64 h.kind,tLi h.a,tLi h.b,.int .i64 h.bit]
abbrev tRw (r:Rw):List T:=[tLi r.a,tLi r.b,tLi r.c]
theorem f5D (l:List (Int×Int)):(tTs l).length=l.length:=by unfold tTs;rw[g5Y]
theorem f5E (l:List (Int×Int)) (i:Nat):(tTs l)[i]?=l[i]?.map λt=>[.int .i64 t.1,.int .u64 t.2]:=by unfold tTs;rw[g5P]
theorem f5F (l:List Li):(tLs l).length=l.length:=by unfold tLs;rw[g5Y]
theorem f5G (l:List Li) (i:Nat):(tLs l)[i]?=l[i]?.map λx=>[tLi x]:=by unfold tLs;rw[g5P]
theorem cP_i (k:IntKind) (n:Int):cellsP (.t (.int k n))=[.t (.int k n)]:=rfl
theorem cP_s (nl:Bool) (es:List (List T)):cellsP (.t (.sl nl es))=[.t (.sl nl es)]:=rfl
theorem cP_b (b:Bool):cellsP (.t (.bool b))=[.t (.bool b)]:=rfl
theorem cP_a (cs:List T):cellsP (.t (.agg cs))=cs.map PV.t:=rfl
theorem cP_A (cs:List PV):cellsP (.agg cs)=cs:=rfl
theorem cP_o (k z:Nat) (es:List (List T)):cellsP (.own k z es)=[.own k z es]:=rfl
theorem oP_i (k:IntKind) (n:Int):Pi.one (.t (.int k n))=true:=rfl
theorem oP_s (nl:Bool) (es:List (List T)):Pi.one (.t (.sl nl es))=true:=rfl
theorem oP_b (b:Bool):Pi.one (.t (.bool b))=true:=rfl
theorem oP_o (k z:Nat) (es:List (List T)):Pi.one (.own k z es)=true:=rfl
theorem wC:type_of% (zaI cP_i (zaI cP_s (zaI cP_b (zaI cP_a (zaI cP_A (zaI cP_o (zaI oP_i (zaI oP_s (zaI oP_b (zaI oP_o (zaI setRange.eq_1 setRange.eq_2))))))))))):=zaI cP_i (zaI cP_s (zaI cP_b (zaI cP_a (zaI cP_A (zaI cP_o (zaI oP_i (zaI oP_s (zaI oP_b (zaI oP_o (zaI setRange.eq_1 setRange.eq_2))))))))))
def Bf (sg:Sg) (r:Nat) (v:PV) (id sz n:Nat) (cs:List PV):Prop:=(n=0/\v=.t (.sl true [])/\id=r/\cs=[])\/(0 < n/\v=.bf id n sz/\sg[id]?=some (false,cs)/\id≠r/\cs.length=n * sz)
theorem Bf.get {sg sg':Sg} {r:Nat} {v:PV} {id sz n:Nat} {cs:List PV} (h:Bf sg r v id sz n cs) (hg:id≠r->id < sg.length->sg'[id]?=sg[id]?):Bf sg' r v id sz n cs:=by
 rcases h with h|⟨h1,h2,h3,h4,h5⟩
 ·exact .inl h
 ·exact .inr ⟨h1,h2,by rw[hg h4 (d4U h3)];exact h3,h4,h5⟩
theorem Bf.lt {sg:Sg} {r:Nat} {v:PV} {id sz n:Nat} {cs:List PV} (h:Bf sg r v id sz n cs) (hr:r < sg.length):id < sg.length:=by
 rcases h with⟨_,_,h,_⟩|⟨_,_,h,_⟩
 ·rw[h];exact hr
 ·exact d4U h
theorem Bf.len {sg:Sg} {r:Nat} {v:PV} {id sz n:Nat} {cs:List PV} (h:Bf sg r v id sz n cs):lenP false v=some n:=by
 rcases h with⟨rfl,rfl,_⟩|⟨_,rfl,_⟩ <;> rfl
theorem a6R {sz:Nat} {l:List T} (h:l.length=sz):a0C sz 1 l=[l]:=by
 unfold a0C
 rw[List.take_of_length_le (by omega)]
 rfl
theorem Bf.apb {sg:Sg} {r:Nat} {v:PV} {id sz n:Nat} {cs:List PV} (h:Bf sg r v id sz n cs) (hr:r < sg.length) {e:List T} (he:e.length=sz) (hsz:0 < sz) {bytes:Nat} (hroom:a0M (n+1) bytes=true) :
  ∃ v' sg',a0S sg sz bytes v (.lit [e])=some (v',sg')/\Bf sg' r v' sg.length sz (n+1) (cs++e.map PV.t)/\sg.length<=sg'.length/\Pi.one v'=true/\cellsP v'=[v']/\(∀ i,i < sg.length->i≠id\/id=r->sg'[i]?=sg[i]?):=by
 rcases h with⟨rfl,rfl,rfl,rfl⟩|⟨h1,rfl,h3,h4,h5⟩
 ·refine⟨.bf sg.length 1 sz,sg++[(false,e.map PV.t)],?_,?_,by simp,rfl,rfl,λi hi _=>g5J hi⟩
  ·have ha:[e].all (λx=>x.length == sz)=true:=by simp [he]
   simp only[a0S,a0K,elems,ha,true_and,if_pos hsz]
   have:a0M ([e]:List (List T)).length bytes=true:=hroom
   rw[if_pos this]
   simp
  ·right
   refine⟨by omega,by simp,?_,by omega,by simp [he]⟩
   simp
 ·refine⟨.bf sg.length (n+1) sz,sg.set id (false,[])++[(false,cs++e.map PV.t)],?_,?_,by simp,rfl,rfl,λi hi hn=>?_⟩
  ·have ha:[e].all (λx=>x.length == sz)=true:=by simp [he]
   have hpos:0 < cs.length:=by rw[h5];exact Nat.mul_pos h1 hsz
   simp only[a0S,a0K,elems,ha,true_and,if_pos hsz,h3]
   have hl:([e]:List (List T)).length=1:=rfl
   rw[hl,if_pos ⟨hpos,by omega,hroom⟩,List.take_of_length_le (by omega)]
   simp
  ·right
   refine⟨by omega,rfl,?_,by omega,by rw[g5W,h5,g5Y,he,g6Q,Nat.one_mul]⟩
   rw[g5K (by simp)]
   simp
  ·rw[g5J (by simpa using hi),g5S (λe=>by
    rcases hn with hn|hn
    ·exact hn e.symm
    ·exact h4 hn)]
def LiC (l:Li):Prop:=l.ts.length<=1000000/\(l.nl=true->l.ts=[])
structure BdC (b:Bd):Prop where
 r:∀ x,x∈b.rows->LiC x.a/\LiC x.b/\LiC x.c
 h:∀ x,x∈b.hints->LiC x.a/\LiC x.b
structure BS (sg:Sg) (r ri hi:Nat) (p:Int) (b:Bd):Prop where
 ex:∃ rv hv,sg[r]?=some (false,[.t (.int .u64 p),.t (.int .u64 p),.t (.int .i64 b.pub),.t (.int .i64 b.vars),rv,.t (.int .i64 b.sec),hv])/\Bf sg r rv ri 3 b.rows.length (b.rows.flatMap cRw)/\Bf sg r hv hi 4 b.hints.length (b.hints.flatMap cHt)
 ne:ri=hi->ri=r
 cl:BdC b
theorem BS.lt {sg:Sg} {r ri hi:Nat} {p:Int} {b:Bd} (h:BS sg r ri hi p b):r < sg.length/\ri < sg.length/\hi < sg.length:=by
 obtain⟨rv,hv,h1,h2,h3⟩:=h.ex
 exact⟨d4U h1,h2.lt (d4U h1),h3.lt (d4U h1)⟩
theorem BS.get {sg sg':Sg} {r ri hi:Nat} {p:Int} {b:Bd} (h:BS sg r ri hi p b) (hg:∀ i,i∈[r,ri,hi]->sg'[i]?=sg[i]?):BS sg' r ri hi p b:=by
 obtain⟨rv,hv,h1,h2,h3⟩:=h.ex
 exact⟨⟨rv,hv,by rw[hg r (by simp)];exact h1,h2.get λ_ _=>hg ri (by simp),h3.get λ_ _=>hg hi (by simp)⟩,h.ne,h.cl⟩
theorem BS.app {sg:Sg} {r ri hi:Nat} {p:Int} {b:Bd} (h:BS sg r ri hi p b) (t:Sg):BS (sg++t) r ri hi p b:=by
 obtain⟨l1,l2,l3⟩:=h.lt
 refine h.get λi hi=>?_
 simp only[g6H,g6N,or_false] at hi
 exact g5J (by rcases hi with rfl|rfl|rfl <;> assumption)
theorem BS.grow {sg sg':Sg} {r ri hi:Nat} {p:Int} {b:Bd} (h:BS sg r ri hi p b) (hg:Grow sg sg'):BS sg' r ri hi p b:=by
 obtain⟨t,rfl⟩:=hg
 exact h.app t
theorem BS.mv {sg sg':Sg} {r ri hi:Nat} {p:Int} {b:Bd} {k k':List Nat} (h:BS sg r ri hi p b) (hm:Mv k k' sg sg') (hr:r ∉ k) (hri:ri ∉ k) (hhi:hi ∉ k):BS sg' r ri hi p b:=by
 obtain⟨l1,l2,l3⟩:=h.lt
 refine h.get λi hi=>?_
 simp only[g6H,g6N,or_false] at hi
 rcases hi with rfl|rfl|rfl
 ·exact hm.2.1 _ l1 hr
 ·exact hm.2.1 _ l2 hri
 ·exact hm.2.1 _ l3 hhi
theorem BS.set {sg:Sg} {r ri hi:Nat} {p:Int} {b:Bd} (h:BS sg r ri hi p b) {i:Nat} (hn:i ∉ [r,ri,hi]) (x:Bool×List PV):BS (sg.set i x) r ri hi p b :=
 h.get λj hj=>g5S (λe=>hn (by rw[e];exact hj))
def Gd (sg:Sg) (ow:Ow) (r ri hi:Nat) (p:Int) (b':Bd) (sg':Sg) (ow':Ow):Prop:=ow <+: ow'/\∃ ri' hi',BS sg' r ri' hi' p b'/\Mv [r,ri,hi] [r,ri',hi'] sg sg'
theorem Gd.ow {sg:Sg} {ow:Ow} {r ri hi:Nat} {p:Int} {b':Bd} {sg':Sg} {ow':Ow} (h:Gd sg ow r ri hi p b' sg' ow'):ow <+: ow':=h.1
theorem Gd.same {sg:Sg} {r ri hi:Nat} {p:Int} {b:Bd} (h:BS sg r ri hi p b) (ow:Ow):Gd sg ow r ri hi p b sg ow:=⟨List.prefix_refl _,ri,hi,h,.refl _ _⟩
theorem Gd.pre {sg sg1:Sg} {ow ow1 ow':Ow} {r ri hi ri1 hi1:Nat} {p:Int} {b':Bd} {sg':Sg} (hm:Mv [r,ri,hi] [r,ri1,hi1] sg sg1) (ho:ow <+: ow1) (h:Gd sg1 ow1 r ri1 hi1 p b' sg' ow'):Gd sg ow r ri hi p b' sg' ow':=by
 obtain⟨h1,ri',hi',h2,h3⟩:=h
 exact⟨ho.trans h1,ri',hi',h2,hm.trans h3⟩
theorem Gd.appL {sg t:Sg} {ow ow':Ow} {r ri hi:Nat} {p:Int} {b':Bd} {sg':Sg} (h:Gd (sg++t) ow r ri hi p b' sg' ow'):Gd sg ow r ri hi p b' sg' ow':=.pre (.app _ _ _) (List.prefix_refl _) h
theorem BS.row {sg sg1:Sg} {r ri hi:Nat} {p:Int} {b:Bd} {v:PV} {rv hv:PV} {x:Rw} (hx:LiC x.a/\LiC x.b/\LiC x.c) (hcl:BdC b) (h0:sg[r]?=some (false,[.t (.int .u64 p),.t (.int .u64 p),.t (.int .i64 b.pub),.t (.int .i64 b.vars),rv,.t (.int .i64 b.sec),hv])) (hh:Bf sg r hv hi 4 b.hints.length (b.hints.flatMap cHt)) (hne:ri=hi->ri=r) (h1:Bf sg1 r v sg.length 3 (b.rows.length+1) (b.rows.flatMap cRw++cRw x)) (hl:sg.length<=sg1.length) (hf:∀ i,i < sg.length->i≠ri\/ri=r->sg1[i]?=sg[i]?) (ow:Ow) :
  Gd sg ow r ri hi p (f0Q x.a x.b x.c b) (sg1.set r (false,[.t (.int .u64 p),.t (.int .u64 p),.t (.int .i64 b.pub),.t (.int .i64 b.vars),v,.t (.int .i64 b.sec),hv])) ow:=by
 have hr:=d4U h0
 have hhi:=hh.lt hr
 have hri:ri=hi->hi=r:=λe=>by rw[<-e];exact hne e
 have hcl':BdC (f0Q x.a x.b x.c b):=⟨λy hy=>by
  rcases g6G.1 hy with hy|hy
  ·exact hcl.r y hy
  ·rw[g6M.1 hy];exact hx,hcl.h⟩
 refine⟨List.prefix_refl _,sg.length,hi,⟨⟨v,hv,?_,?_,?_⟩,λe=>by omega,hcl'⟩,?_⟩
 ·rw[g5T (by omega)];rfl
 ·have:Bf sg1 r v sg.length 3 (f0Q x.a x.b x.c b).rows.length ((f0Q x.a x.b x.c b).rows.flatMap cRw):=by
   simpa [f0Q] using h1
  exact this.get λhn _=>g5S (λe=>hn e.symm)
 ·refine hh.get λhn hlt=>?_
  rw[g5S (λe=>hn e.symm)]
  refine hf hi hlt ?_
  by_cases e:hi=ri
  ·exact absurd (hri e.symm) hn
  ·exact .inl e
 ·refine Mv.set (i:=r) ⟨hl,λi hi' hn=>?_,λi hi'=>?_⟩ (.inl (by simp)) _
  ·simp only[g6H,g6N,or_false,not_or] at hn
   exact hf i hi' (.inl hn.2.1)
  ·simp only[g6H,g6N,or_false] at hi' ⊢
   rcases hi' with rfl|rfl|rfl
   ·exact .inl (.inl rfl)
   ·exact .inr (g6U _)
   ·exact .inl (.inr (.inr rfl))
theorem BS.hint {sg sg1:Sg} {r ri hi:Nat} {p:Int} {b:Bd} {v:PV} {rv hv:PV} {x:Ht} (hx:LiC x.a/\LiC x.b) (hcl:BdC b) (h0:sg[r]?=some (false,[.t (.int .u64 p),.t (.int .u64 p),.t (.int .i64 b.pub),.t (.int .i64 b.vars),rv,.t (.int .i64 b.sec),hv])) (hh:Bf sg r rv ri 3 b.rows.length (b.rows.flatMap cRw)) (hne:ri=hi->ri=r) (h1:Bf sg1 r v sg.length 4 (b.hints.length+1) (b.hints.flatMap cHt++cHt x)) (hl:sg.length<=sg1.length) (hf:∀ i,i < sg.length->i≠hi\/hi=r->sg1[i]?=sg[i]?) (ow:Ow) :
  Gd sg ow r ri hi p ⟨b.pub,b.sec,b.vars+1,b.rows,b.hints++[x]⟩ (sg1.set r (false,[.t (.int .u64 p),.t (.int .u64 p),.t (.int .i64 b.pub),.t (.int .i64 (b.vars+1)),rv,.t (.int .i64 b.sec),v])) ow:=by
 have hr:=d4U h0
 have hri:=hh.lt hr
 have hcl':BdC ⟨b.pub,b.sec,b.vars+1,b.rows,b.hints++[x]⟩:=⟨hcl.r,λy hy=>by
  rcases g6G.1 hy with hy|hy
  ·exact hcl.h y hy
  ·rw[g6M.1 hy];exact hx⟩
 refine⟨List.prefix_refl _,ri,sg.length,⟨⟨rv,v,?_,?_,?_⟩,λe=>by omega,hcl'⟩,?_⟩
 ·rw[g5T (by omega)]
 ·refine hh.get λhn hlt=>?_
  rw[g5S (λe=>hn e.symm)]
  refine hf ri hlt ?_
  by_cases e:ri=hi
  ·exact absurd (hne e) hn
  ·exact .inl e
 ·have:Bf sg1 r v sg.length 4 (b.hints++[x]).length ((b.hints++[x]).flatMap cHt):=by
   simpa using h1
  exact this.get λhn _=>g5S (λe=>hn e.symm)
 ·refine Mv.set (i:=r) ⟨hl,λi hi' hn=>?_,λi hi'=>?_⟩ (.inl (by simp)) _
  ·simp only[g6H,g6N,or_false,not_or] at hn
   exact hf i hi' (.inl hn.2.2)
  ·simp only[g6H,g6N,or_false] at hi' ⊢
   rcases hi' with rfl|rfl|rfl
   ·exact .inl (.inl rfl)
   ·exact .inl (.inr (.inl rfl))
   ·exact .inr (g6U _)
end Go.Ky

/- KX 88: slices whose elements are filled one by one. -/
namespace Go.Ky
open Go.Pi Go.Lx
theorem f5H {cs:List PV} {i:Nat} {x:PV} (h:cs[i]?=some x):cs.set i x=cs:=by
 apply List.ext_getElem?
 intro j
 by_cases hj:i=j
 ·subst hj
  rw[g5T (g5O.1 h).1,h]
 ·rw[g5S hj]
theorem f5I:∀ (vs cs:List PV) (off:Nat),off+vs.length<=cs.length->setRange cs off vs=cs.take off++vs++cs.drop (off+vs.length)
 |[],cs,off,h=>by simp [setRange]
 |v::r,cs,off,h=>by
  have hl:off < cs.length:=by simp only[g5X] at h;omega
  rw[setRange,f5I r _ _ (by rw[g6A];simp only[g5X] at h;omega)]
  apply List.ext_getElem?
  intro i
  have t1:(List.take (off+1) (cs.set off v))=cs.take off++[v]:=by
   rw[List.take_add_one,g5T hl,List.take_set_of_le (g6U _)];rfl
  have t2:List.drop (off+1+r.length) (cs.set off v)=List.drop (off+(v::r).length) cs:=by
   rw[List.drop_set_of_lt (by omega),g5X,show off+1+r.length=off+(r.length+1) by omega]
  rw[t1,t2]
  simp
section
variable {α:Type} (t:α->List T) (z:List T)
def cG (l:List α):List PV:=(l.flatMap t).map PV.t
def f5J (n:Nat) (l:List α):List PV:=cG t l++(List.replicate (n - l.length) z).flatten.map PV.t
variable {t z}
theorem f5K:cG t []=[]:=rfl
theorem f5L (a:α) (l:List α):cG t (a::l)=(t a).map PV.t++cG t l:=by unfold cG;rw[List.flatMap_cons,g6D]
theorem f5M (l m:List α):cG t (l++m)=cG t l++cG t m:=by unfold cG;rw[List.flatMap_append,g6D]
theorem f5N {sz:Nat} (h:∀ x,(t x).length=sz) (l:List α):(cG t l).length=l.length * sz:=by
 induction l with
 |nil=>simp [cG]
 |cons a r ih=>rw[f5L,g5W,g5Y,h,ih,g5X,g6Q];omega
theorem f5O {sz:Nat} (hz:z.length=sz) (k:Nat):((List.replicate k z).flatten.map PV.t).length=k * sz:=by
 rw[g5Y,List.length_flatten]
 simp [hz]
theorem f5P (n:Nat):f5J t z n []=(List.replicate n z).flatten.map PV.t:=by unfold f5J;simp [cG]
theorem f5Q {n:Nat} {l:List α} (h:l.length=n):f5J t z n l=cG t l:=by unfold f5J;rw[h,Nat.sub_self];simp
theorem f5R {sz:Nat} (h:∀ x,(t x).length=sz) (hz:z.length=sz) {n:Nat} {l:List α} (hl:l.length<=n):(f5J t z n l).length=n * sz:=by
 unfold f5J
 rw[g5W,f5N h,f5O hz,<-g6Q]
 congr 1
 omega
theorem f5S {sz:Nat} (h:∀ x,(t x).length=sz) (hz:z.length=sz) {n:Nat} {l:List α} (hl:l.length < n) (x:α):setRange (f5J t z n l) (l.length * sz) ((t x).map PV.t)=f5J t z n (l++[x]):=by
 have e1:=f5R h hz (Nat.le_of_lt hl)
 have e2:=f5N h l
 obtain⟨k,hk⟩:∃ k,n - l.length=k+1:=⟨n - l.length - 1,by omega⟩
 have e3:(l.length+1) * sz<=n * sz:=g6Y sz hl
 rw[g6Q,Nat.one_mul] at e3
 rw[f5I _ _ _ (by rw[g5Y,h,e1];exact e3)]
 unfold f5J
 rw[List.take_append_of_le_length (by omega),List.take_of_length_le (by omega),g5Y,h,f5M,f5L,f5K,g5C,hk,List.replicate_succ,g5H,g6D,g5W,List.length_singleton,show n - (l.length+1)=k by omega]
 have ez:(z.map PV.t).length=sz:=by rw[g5Y,hz]
 rw[<-g5B (cG t l) (z.map PV.t),List.drop_left' (by rw[g5W,e2,ez])]
theorem f5T {sz:Nat} (h:∀ x,(t x).length=sz):∀ (l:List α) (i:Nat) (x:α) (r:List PV),l[i]?=some x->((cG t l++r).drop (i * sz)).take sz=(t x).map PV.t
 |[],i,x,r,hx=>by simp at hx
 |a::l,0,x,r,hx=>by
  have:a=x:=by simpa using hx
  subst this
  rw[f5L,Nat.zero_mul,g5F,g5B,List.take_append_of_le_length (by rw[g5Y,h];exact g6U _),List.take_of_length_le (by rw[g5Y,h];exact g6U _)]
 |a::l,i+1,x,r,hx=>by
  rw[f5L,g5B,show(i+1) * sz=sz+i * sz by rw[g6Q,Nat.one_mul];omega,<-g5E,List.drop_left' (by rw[g5Y,h])]
  exact f5T h l i x r (by simpa using hx)
theorem f5U {sz:Nat} (h:∀ x,(t x).length=sz) {l:List α} {i:Nat} {x:α} (r:List PV) (hx:l[i]?=some x) (j:Nat) (hj:j < sz):(cG t l++r)[i * sz+j]?=(t x)[j]?.map PV.t:=by
 have:=f5T h l i x r hx
 have h2:=congrArg (λq=>q[j]?) this
 simp only[g5U,if_pos hj,g5L,g5P] at h2
 exact h2
theorem a4O (l:List T):allT (l.map PV.t)=some l:=by
 induction l with
 |nil=>rfl
 |cons a r ih=>rw[g6E,allT,ih];rfl
theorem f5V {l:List T} (h:l.any T.isAgg=false):(l.map PV.t).mapM a0L=some l:=by
 induction l with
 |nil=>rfl
 |cons a r ih =>
  simp only[List.any_cons,g4W] at h
  rw[g6E,g6C,ih h.2]
  simp [a0L,close1,h.1]
theorem f5W {sz:Nat} (h:∀ x,(t x).length=sz) (l:List α):a0C sz l.length (l.flatMap t)=l.map t:=by
 induction l with
 |nil=>rfl
 |cons a r ih =>
  rw[g5X,List.flatMap_cons,a0C,List.take_append_of_le_length (by rw[h];exact g6U _),List.take_of_length_le (by rw[h];exact g6U _),List.drop_append_of_le_length (by rw[h];exact g6U _),List.drop_of_length_le (by rw[h];exact g6U _),List.nil_append,ih,g6E]
theorem f5X (ha:∀ x,(t x).any T.isAgg=false) (l:List α):(l.flatMap t).any T.isAgg=false:=by
 induction l with
 |nil=>rfl
 |cons a r ih=>rw[List.flatMap_cons,List.any_append,ha,ih];rfl
theorem f5Y {sz:Nat} (hz:0 < sz) (h:∀ x,(t x).length=sz) (ha:∀ x,(t x).any T.isAgg=false) {sg:Sg} {a:Nat} {l:List α} (hs:sg[a]?=some (false,cG t l)) (h0:l≠[]):a1D sg a 0 l.length sz=some (l.map t):=by
 have hl:0 < l.length:=List.length_pos_iff.2 h0
 unfold a1D
 rw[hs]
 have hln:=f5N h l
 simp only[hln,g7A,g5F]
 rw[if_pos ⟨Nat.mul_pos hl hz,g6U _,hz⟩,List.take_of_length_le (by rw[hln];exact g6U _)]
 unfold cG
 rw[f5V (f5X ha l)]
 simp only[g7F,f5W h]
theorem f5Z {sz:Nat} (h:∀ x,(t x).length=sz) (ha:∀ x,(t x).any T.isAgg=false) {sg:Sg} {a:Nat} {l:List α} (hs:sg[a]?=some (false,cG t l)):a0K sg sz (.ls a 0 l.length sz)=some (l.map t):=by
 have hln:=f5N h l
 simp only[a0K,a0J,hs,if_true,g7A,g5F]
 rw[if_pos (by rw[hln];exact g6U _),List.take_of_length_le (by rw[hln];exact g6U _)]
 unfold cG
 rw[a4O]
 simp only[f5X ha,f5W h]
 rfl
theorem f6A {sz:Nat} (h:∀ x,(t x).length=sz) {l:List α} {i:Nat} {x:α} (hx:l[i]?=some x):setRange (cG t l) (i * sz) ((t x).map PV.t)=cG t l:=by
 have hi:=(g5O.1 hx).1
 have hle:(i+1) * sz<=l.length * sz:=g6Y sz hi
 rw[g6Q,Nat.one_mul] at hle
 have hl:=f5N h l
 have ht:=f5T h l i x [] hx
 rw[g5C] at ht
 rw[f5I _ _ _ (by rw[g5Y,h,hl];exact hle),g5Y,h,<-ht,g5B,<-g5E,g6P,g6P]
theorem f6B (l:List α):cG t l=l.flatMap λx=>(t x).map PV.t:=by unfold cG;rw[List.map_flatMap]
theorem f6C {sz:Nat} (hz:0 < sz) (h:∀ x,(t x).length=sz) (ha:∀ x,(t x).any T.isAgg=false) {sg:Sg} {id:Nat} {l:List α} (hs:sg[id]?=some (false,cG t l)) (h0:l≠[]) {bytes:Nat} (hr:a0M l.length bytes=true) :
  a0S sg sz bytes (.lit []) (.bf id l.length sz)=some (.bf sg.length l.length sz,sg++[(false,cG t l)]):=by
 have he:a0K sg sz (.bf id l.length sz)=some (l.map t):=f5Z h ha hs
 unfold a0S
 rw[he]
 cases l with
 |nil=>exact absurd rfl h0
 |cons x r =>
  have hall:(t x::r.map t).all (λx=>x.length == sz)=true:=by
   rw[g5A]
   intro y hy
   rcases g6H.1 hy with rfl|hy
   ·simp [h]
   ·obtain⟨z,_,rfl⟩:=List.mem_map.1 hy
    simp [h]
  have hln:(t x::r.map t).length=(x::r).length:=by simp
  simp only[g6E]
  rw[if_pos ⟨hall,hz⟩,hln,if_pos hr]
  rfl
variable (t z)
theorem f6D {sz:Nat} (hz:z.length=sz) (hs:0 < sz) (sg:Sg) (ow:Ow) {n bytes:Nat} (hr:a0M n bytes=true):∃ v r ow',b4G false sg ow sz bytes z (.t (.int .i64 n)) (.t (.int .i64 n))=some (v,sg++r,ow')/\ow <+: ow'/\((n=0/\(∃ k,v=.own k sz [])/\r=[])\/(0 < n/\v=.ls sg.length 0 n sz/\r=[(false,f5J t z n [])])):=by
 by_cases h0:n=0
 ·subst h0
  refine⟨.own ow.length sz [],[],ow++[0],?_,List.prefix_append _ _,.inl ⟨rfl,⟨_,rfl⟩,rfl⟩⟩
  simp [b4G,hr,hz,hs]
 ·refine⟨.ls sg.length 0 n sz,[(false,f5J t z n [])],ow,?_,List.prefix_refl _,.inr ⟨by omega,rfl,rfl⟩⟩
  have h1:¬(n:Int)=0:=by omega
  rw[f5P]
  simp [b4G,hr,hz,hs]
  exact h0
end
end Go.Ky

/- KX 89: the compiler in the store; values as trees. -/
namespace Go.Ky
open Go.Pi Go.Lx
abbrev tVc (v:Vc):List T:=[.sl false (tLs v.els),.int .i64 v.typ.kind,.int .i64 v.typ.bits,.int .i64 v.typ.len,.int .i64 v.num]
theorem f6E (v:Vc):(tVc v).length=5:=rfl
theorem f6F (v:Vc):(tVc v).any T.isAgg=false:=rfl
abbrev zVt:List T:=[.sl true [],.int .i64 0,.int .i64 0,.int .i64 0,.int .i64 0]
abbrev iC (sc:Sx):List PV:=d4V (λv=>.agg (tVc v)) sc
abbrev iFc (fs:Fs):List PV:=d4V (λx=>.agg (tFu x)) fs
abbrev cCm (p:Int) (r fm:Nat) (rows:Int) (full:Bool):Bool×List PV:=(false,[.t (.int .u64 p),.lp r 0,.mp fm,.t (.int .i64 rows),.t (.bool full)])
structure CS (sg:Sg) (c r ri hi fm:Nat) (p:Int) (fa:Fs) (s:Cst):Prop where
 hc:sg[c]?=some (cCm p r fm s.rows s.full)
 hf:sg[fm]?=some (true,iFc fa)
 hb:BS sg r ri hi p s.b
 cc:c ∉ [r,ri,hi]
 cf:fm ∉ [c,r,ri,hi]
theorem CS.lt {sg:Sg} {c r ri hi fm:Nat} {p:Int} {fa:Fs} {s:Cst} (h:CS sg c r ri hi fm p fa s):∀ i,i∈[c,r,ri,hi]->i < sg.length:=by
 obtain⟨l1,l2,l3⟩:=h.hb.lt
 have l0:=d4U h.hc
 intro i hi
 simp only[g6H,g6N,or_false] at hi
 rcases hi with rfl|rfl|rfl|rfl <;> assumption
theorem CS.new {sg:Sg} {c r ri hi fm:Nat} {p:Int} {fa:Fs} {s:Cst} (h:CS sg c r ri hi fm p fa s) {i:Nat} (hn:sg.length<=i):i ∉ [c,r,ri,hi]:=λe=>by
 have:=h.lt i e
 omega
theorem BS.new {sg:Sg} {r ri hi:Nat} {p:Int} {b:Bd} (h:BS sg r ri hi p b) {i:Nat} (hn:sg.length<=i):i ∉ [r,ri,hi]:=λe=>by
 obtain⟨l1,l2,l3⟩:=h.lt
 simp only[g6H,g6N,or_false] at e
 omega
theorem CS.app {sg:Sg} {c r ri hi fm:Nat} {p:Int} {fa:Fs} {s:Cst} (h:CS sg c r ri hi fm p fa s) (t:Sg):CS (sg++t) c r ri hi fm p fa s:=⟨b0R h.hc,b0R h.hf,h.hb.app t,h.cc,h.cf⟩
theorem CS.grow {sg sg':Sg} {c r ri hi fm:Nat} {p:Int} {fa:Fs} {s:Cst} (h:CS sg c r ri hi fm p fa s) (hg:Grow sg sg'):CS sg' c r ri hi fm p fa s:=by
 obtain⟨t,rfl⟩:=hg
 exact h.app t
theorem CS.set {sg:Sg} {c r ri hi fm:Nat} {p:Int} {fa:Fs} {s:Cst} (h:CS sg c r ri hi fm p fa s) {i:Nat} (hn:i ∉ [c,r,ri,hi]) (hf:i≠fm) (x:Bool×List PV):CS (sg.set i x) c r ri hi fm p fa s:=by
 have h1:i≠c:=λe=>hn (by simp [e])
 exact⟨by rw[g5S h1];exact h.hc,by rw[g5S hf];exact h.hf,h.hb.set (λe=>hn (g6I _ e)) x,h.cc,h.cf⟩
def Cd (sg:Sg) (ow:Ow) (c r ri hi fm:Nat) (p:Int) (fa:Fs) (s':Cst) (sg':Sg) (ow':Ow):Prop:=ow <+: ow'/\∃ ri' hi',CS sg' c r ri' hi' fm p fa s'/\Mv [c,r,ri,hi] [c,r,ri',hi'] sg sg'
theorem Cd.same {sg:Sg} {c r ri hi fm:Nat} {p:Int} {fa:Fs} {s:Cst} (h:CS sg c r ri hi fm p fa s) (ow:Ow):Cd sg ow c r ri hi fm p fa s sg ow:=⟨List.prefix_refl _,ri,hi,h,.refl _ _⟩
theorem Cd.pre {sg sg1:Sg} {ow ow1 ow':Ow} {c r ri hi ri1 hi1 fm:Nat} {p:Int} {fa:Fs} {s':Cst} {sg':Sg} (hm:Mv [c,r,ri,hi] [c,r,ri1,hi1] sg sg1) (ho:ow <+: ow1) (h:Cd sg1 ow1 c r ri1 hi1 fm p fa s' sg' ow'):Cd sg ow c r ri hi fm p fa s' sg' ow':=by
 obtain⟨h1,ri',hi',h2,h3⟩:=h
 exact⟨ho.trans h1,ri',hi',h2,hm.trans h3⟩
theorem Cd.app {sg t:Sg} {ow ow':Ow} {c r ri hi fm:Nat} {p:Int} {fa:Fs} {s':Cst} {sg':Sg} (h:Cd (sg++t) ow c r ri hi fm p fa s' sg' ow'):Cd sg ow c r ri hi fm p fa s' sg' ow':=.pre (.app _ _ _) (List.prefix_refl _) h
theorem Cd.grow {sg:Sg} {ow ow' ow2:Ow} {c r ri hi fm:Nat} {p:Int} {fa:Fs} {s':Cst} {sg' sg2:Sg} (h:Cd sg ow c r ri hi fm p fa s' sg' ow') (hg:Grow sg' sg2) (ho:ow' <+: ow2):Cd sg ow c r ri hi fm p fa s' sg2 ow2:=by
 obtain⟨h1,ri',hi',h2,h3⟩:=h
 exact⟨h1.trans ho,ri',hi',h2.grow hg,h3.trans (.grow hg)⟩
theorem Cd.set {sg:Sg} {ow ow':Ow} {c r ri hi fm:Nat} {p:Int} {fa:Fs} {s':Cst} {sg':Sg} (h:Cd sg ow c r ri hi fm p fa s' sg' ow') {i:Nat} (h1:sg.length<=i) (hf:fm < sg.length) (hc:∀ ri' hi',CS sg' c r ri' hi' fm p fa s'->Mv [c,r,ri,hi] [c,r,ri',hi'] sg sg'->i ∉ [c,r,ri',hi']) (x:Bool×List PV):Cd sg ow c r ri hi fm p fa s' (sg'.set i x) ow':=by
 obtain⟨h2,ri',hi',h3,h4⟩:=h
 exact⟨h2,ri',hi',h3.set (hc _ _ h3 h4) (by omega) x,h4.set (.inr h1) x⟩
theorem CS.gd {sg:Sg} {ow ow':Ow} {c r ri hi fm:Nat} {p:Int} {fa:Fs} {s:Cst} {b':Bd} {sg':Sg} (h:CS sg c r ri hi fm p fa s) (hG:Gd sg ow r ri hi p b' sg' ow'):Cd sg ow c r ri hi fm p fa ⟨b',s.rows,s.full⟩ sg' ow':=by
 obtain⟨h1,ri',hi',h2,h3⟩:=hG
 have lc:=d4U h.hc
 have lf:=d4U h.hf
 have hfr:fm ∉ [r,ri,hi]:=λe=>h.cf (g6I _ e)
 have hfc:fm≠c:=λe=>h.cf (by simp [e])
 refine⟨h1,ri',hi',⟨h3.get h.hc h.cc,h3.get h.hf hfr,h2,h3.cold lc h.cc,λe=>?_⟩,h3.cons c⟩
 rcases g6H.1 e with e|e
 ·exact hfc e
 ·exact h3.cold lf hfr e
theorem CS.rows {sg:Sg} {c r ri hi fm:Nat} {p:Int} {fa:Fs} {s:Cst} (h:CS sg c r ri hi fm p fa s) (rows:Int) (full:Bool):CS (sg.set c (cCm p r fm rows full)) c r ri hi fm p fa ⟨s.b,rows,full⟩:=by
 have hfc:fm≠c:=λe=>h.cf (by simp [e])
 exact⟨g5T (d4U h.hc),by rw[g5S (Ne.symm hfc)];exact h.hf,h.hb.set h.cc _,h.cc,h.cf⟩
theorem BS.map {sg:Sg} {r ri hi:Nat} {p:Int} {b:Bd} (h:BS sg r ri hi p b) {m:Nat} {es:List PV} (hm:sg[m]?=some (true,es)):m ∉ [r,ri,hi]:=λe=>by
 obtain⟨rv,hv,h1,h2,h3⟩:=h.ex
 have hr:m≠r:=λe=>by rw[e,h1] at hm;cases hm
 simp only[g6H,g6N,or_false] at e
 rcases e with e|e|e
 ·exact hr e
 ·rcases h2 with⟨_,_,h2,_⟩|⟨_,_,h2,_⟩
  ·exact hr (by rw[e,h2])
  ·rw[e,h2] at hm;cases hm
 ·rcases h3 with⟨_,_,h3,_⟩|⟨_,_,h3,_⟩
  ·exact hr (by rw[e,h3])
  ·rw[e,h3] at hm;cases hm
theorem CS.map {sg:Sg} {c r ri hi fm:Nat} {p:Int} {fa:Fs} {s:Cst} (h:CS sg c r ri hi fm p fa s) {m:Nat} {es:List PV} (hm:sg[m]?=some (true,es)):m ∉ [c,r,ri,hi]:=λe=>by
 rcases g6H.1 e with e|e
 ·rw[e,h.hc] at hm;cases hm
 ·exact h.hb.map hm e
theorem Mv.perm {h h' k k':List Nat} {x y:Sg} (a:Mv h h' x y) (h1:∀ i,i∈h->i∈k) (h2:∀ i,i∈k'->i∈h'\/i∈k):Mv k k' x y :=
 ⟨a.1,λi hi hn=>a.2.1 i hi λe=>hn (h1 i e),λi hi=>by
  rcases h2 i hi with e|e
  ·exact(a.2.2 i e).imp (h1 i) id
  ·exact .inl e⟩
theorem Mv.loc {a:Nat} {h h':List Nat} {x y:Sg} (hm:Mv (a::h) (a::h') x y) (ha:x.length<=a):Mv h h' x y:=by
 refine⟨hm.1,λi hi hn=>hm.2.1 i hi λe=>?_,λi hi=>?_⟩
 ·rcases g6H.1 e with e|e
  ·omega
  ·exact hn e
 ·rcases hm.2.2 i (g6I _ hi) with e|e
  ·rcases g6H.1 e with e|e
   ·exact .inr (by omega)
   ·exact .inl e
  ·exact .inr e
end Go.Ky
