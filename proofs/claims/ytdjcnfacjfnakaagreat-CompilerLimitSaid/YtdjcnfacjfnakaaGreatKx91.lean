/- KX 82: the compiler as a model: linear combinations, the builder of circuits. No program in sight. -/
import Derived.Test.YtdjcnfacjfnakaaGreatKx80
import Derived.Test.YtdjcnfacjfnakaaGreatKx80
import Derived.Test.YtdjcnfacjfnakaaGreatKx81
set_option linter.unusedSimpArgs false
set_option linter.unusedVariables false
namespace Go.Ky
open Go.Pi Go.Lx
structure Fo where
 p:Int
 red:Int→Int
 neg:Int→Int
 add:Int→Int→Int
 mul:Int→Int→Int
 ex:Int
 pc:Int→Int→Int
structure Li where
 nl:Bool
 ts:List (Int×Int)
def e8S:Li:=⟨true,[]⟩
def e8T (Φ:Fo) (v n:Int):Li:=if Φ.red n=0 then e8S else ⟨false,[(v,Φ.red n)]⟩
def e8U (Φ:Fo) (n:Int):Li:=e8T Φ 0 n
def e8V (Φ:Fo) (v:Int):Li:=e8T Φ v 1
def e8W (Φ:Fo):Li:=e8V Φ 0
def e8X (t:Int×Int) (r:List (Int×Int)):List (Int×Int):=if t.2=0 then r else t::r
def e8Y (Φ:Fo) (n:Int):Nat→List (Int×Int)→List (Int×Int)→List (Int×Int)
 |0,_,_=>[]
 |_+1,[],[]=>[]
 |k+1,a::x,[]=>e8X a (e8Y Φ n k x [])
 |k+1,[],b::y=>e8X (b.1,Φ.mul n b.2) (e8Y Φ n k [] y)
 |k+1,a::x,b::y=>if a.1 < b.1 then e8X a (e8Y Φ n k x (b::y)) else if b.1 < a.1 then e8X (b.1,Φ.mul n b.2) (e8Y Φ n k (a::x) y) else e8X (a.1,Φ.add a.2 (Φ.mul n b.2)) (e8Y Φ n k x y)
def e8Z (Φ:Fo) (x y:Li) (n:Int):Li:=⟨false,e8Y Φ n (x.ts.length+y.ts.length) x.ts y.ts⟩
def e9A (Φ:Fo) (x y:Li):Li:=e8Z Φ x y 1
def e9B (Φ:Fo) (x y:Li):Li:=e8Z Φ x y (Φ.neg 1)
def e9C (Φ:Fo) (x:Li) (n:Int):Li:=e8Z Φ e8S x n
structure Rw where
 a:Li
 b:Li
 c:Li
structure Ht where
 kind:Int
 a:Li
 b:Li
 bit:Int
structure Bd where
 pub:Int
 sec:Int
 vars:Int
 rows:List Rw
 hints:List Ht
def e9D (Φ:Fo) (h:Ht) (b:Bd):Li×Bd:=(e8V Φ b.vars,⟨b.pub,b.sec,b.vars+1,b.rows,b.hints++[h]⟩)
def e9E (x y z:Li) (b:Bd):Bd:=⟨b.pub,b.sec,b.vars,b.rows++[⟨x,y,z⟩],b.hints⟩
def e9F (Φ:Fo) (x y:Li) (b:Bd):Li×Bd:=((e9D Φ ⟨1,x,y,0⟩ b).1,e9E x y (e9D Φ ⟨1,x,y,0⟩ b).1 (e9D Φ ⟨1,x,y,0⟩ b).2)
def e9G (Φ:Fo) (x y:Li) (b:Bd):Bd:=e9E (e9B Φ x y) (e8W Φ) e8S b
def e9H (x:Li) (b:Bd):Bd:=e9E x x x b
def e9I (Φ:Fo) (x:Li):Nat→Int→List Li→List (Int×Int)→Bd→List Li×List (Int×Int)×Bd
 |0,_,ls,ts,b=>(ls,ts,b)
 |k+1,i,ls,ts,b =>
  let q:=e9D Φ ⟨3,x,e8S,i⟩ b
  e9I Φ x k (i+1) (ls++[q.1]) (ts++[(b.vars,Φ.red (IntKind.u64.wrap (1 * 2 ^ min i.toNat IntKind.u64.bits)))]) (e9H q.1 q.2)
def e9J (Φ:Fo) (x:Li) (n:Int) (b:Bd):List Li×Bd :=
 if n < 0∨62 < n then ([],b) else
  let q:=e9I Φ x n.toNat 0 [] [] b
  (q.1,e9G Φ ⟨false,q.2.1⟩ x q.2.2)
def e9K (Φ:Fo) (x:Li):Li:=e9B Φ (e8W Φ) x
def e9L (Φ:Fo) (x:Li) (b:Bd):Li×Bd :=
 let v:=e9D Φ ⟨2,x,e8S,0⟩ b
 let m:=e9F Φ x v.1 v.2
 let z:=e9K Φ m.1
 (z,e9E v.1 z e8S (e9E x z e8S m.2))
def eqB (Φ:Fo) (x y:Li) (b:Bd):Li×Bd:=e9L Φ (e9B Φ x y) b
def orB (Φ:Fo) (x y:Li) (b:Bd):Li×Bd:=let m:=e9F Φ x y b;(e9B Φ (e9A Φ x y) m.1,m.2)
def e9M (Φ:Fo) (c x y:Li) (b:Bd):Li×Bd:=let m:=e9F Φ c (e9B Φ x y) b;(e9A Φ y m.1,m.2)
def e9N (Φ:Fo) (x y:Li) (n:Int) (b:Bd):Li×Bd :=
 if n < 0∨62≤n then (e8S,b) else
  let q:=e9J Φ (e9B Φ (e9A Φ (e8U Φ (IntKind.u64.wrap (1 * 2 ^ min n.toNat IntKind.u64.bits))) x) y) (n+1) b
  (e9K Φ (q.1.getD n.toNat e8S),q.2)
def e9O (Φ:Fo) (x:Li) (b:Bd):Li×Bd :=
 let a:=e9F Φ x x b
 let a:=if Φ.ex=5 then e9F Φ a.1 a.1 a.2 else if Φ.ex=7 then (let c:=e9F Φ a.1 x a.2;e9F Φ c.1 c.1 c.2) else a
 e9F Φ a.1 x a.2
abbrev Tr:=Li×Li×Li
def e9P (Φ:Fo) (r:Int) (s:Tr) (b:Bd):Tr×Bd :=
 let s0:=e9A Φ s.1 (e8U Φ (Φ.pc r 0))
 let s1:=e9A Φ s.2.1 (e8U Φ (Φ.pc r 1))
 let s2:=e9A Φ s.2.2 (e8U Φ (Φ.pc r 2))
 let a:=e9O Φ s0 b
 let c:=e9O Φ s1 a.2
 let d:=e9O Φ s2 c.2
 let m:=e9A Φ (e9A Φ a.1 c.1) d.1
 ((e9A Φ a.1 m,e9A Φ c.1 m,e9A Φ d.1 m),d.2)
def e9Q (Φ:Fo):Nat→Int→Tr→Bd→Tr×Bd
 |0,_,s,b=>(s,b)
 |k+1,r,s,b=>e9Q Φ k (r+1) (e9P Φ r s b).1 (e9P Φ r s b).2
def e9R (Φ:Fo):List Li→Tr→Bd→Tr×Bd
 |[],s,b=>(s,b)
 |[x],s,b=>e9Q Φ 8 0 (e9A Φ s.1 x,s.2.1,s.2.2) b
 |x::y::r,s,b=>e9R Φ r (e9Q Φ 8 0 (e9A Φ s.1 x,e9A Φ s.2.1 y,s.2.2) b).1 (e9Q Φ 8 0 (e9A Φ s.1 x,e9A Φ s.2.1 y,s.2.2) b).2
def e9S (Φ:Fo) (label:Int) (l:List Li) (b:Bd):Li×Bd :=
 let s:Tr:=(e8S,e8S,e8U Φ (Φ.add (Φ.mul label 65536) l.length))
 let q:=match l with
  |[]=>e9Q Φ 8 0 s b
  |_=>e9R Φ l s b
 (q.1.1,q.2)
end Go.Ky

/- KX 83: linear combinations stay in order; what a gadget adds to a builder. No program in sight. -/
namespace Go.Ky
open Go.Pi Go.Lx
structure Fo.Nn (Φ:Fo):Prop where
 red:∀ a,0≤a→0≤Φ.red a
 neg:∀ a,0≤a→0≤Φ.neg a
 add:∀ a b,0≤a→0≤b→0≤Φ.add a b
 mul:∀ a b,0≤a→0≤b→0≤Φ.mul a b
 pc:∀ r i,0≤Φ.pc r i
def Inc:Int→Int→List (Int×Int)→Prop
 |_,_,[]=>True
 |lo,n,t::r=>lo≤t.1∧t.1 < n∧0≤t.2∧Inc (t.1+1) n r
theorem Inc.mono {n n':Int} (hn:n≤n'):∀ {l:List (Int×Int)} {lo lo':Int},lo'≤lo→Inc lo n l→Inc lo' n' l
 |[],_,_,_,_=>True.intro
 |t::r,lo,lo',h,⟨h1,h2,h3,h4⟩=>⟨by omega,by omega,h3,h4.mono hn (Int.le_refl _)⟩
theorem Inc.len:∀ {l:List (Int×Int)} {lo n:Int},lo≤n→Inc lo n l→lo+l.length≤n
 |[],lo,n,h,_=>by simp;omega
 |t::r,lo,n,h,⟨h1,h2,h3,h4⟩=>by
  have:=h4.len (by omega)
  simp only[g3W]
  omega
theorem Inc.keep {lo n:Int} {t:Int×Int} {r:List (Int×Int)} (h:Inc lo n (t::r)):Inc lo n (e8X t r):=by
 unfold e8X
 split
 ·exact h.2.2.2.mono (Int.le_refl _) (by have:=h.1;omega)
 ·exact h
theorem Inc.comb {Φ:Fo} (hΦ:Φ.Nn) {c n:Int} (hc:0≤c):∀ (k:Nat) (x y:List (Int×Int)) (lo:Int),Inc lo n x→Inc lo n y→Inc lo n (e8Y Φ c k x y):=by
 intro k
 induction k with
 |zero=>intro x y lo _ _;rw[e8Y];exact True.intro
 |succ k ih =>
  intro x y lo hx hy
  match x,y with
  |[],[]=>rw[e8Y];exact True.intro
  |a::x,[]=>rw[e8Y];exact Inc.keep ⟨hx.1,hx.2.1,hx.2.2.1,ih _ _ _ hx.2.2.2 True.intro⟩
  |[],b::y=>rw[e8Y];exact Inc.keep ⟨hy.1,hy.2.1,hΦ.mul _ _ hc hy.2.2.1,ih _ _ _ True.intro hy.2.2.2⟩
  |a::x,b::y =>
   obtain⟨a1,a2,a3,a4⟩:=hx
   obtain⟨b1,b2,b3,b4⟩:=hy
   rw[e8Y]
   split
   ·rename_i h
    exact Inc.keep ⟨a1,a2,a3,ih _ _ _ a4 ⟨by omega,b2,b3,b4⟩⟩
   ·split
    ·rename_i h
     exact Inc.keep ⟨b1,b2,hΦ.mul _ _ hc b3,ih _ _ _ ⟨by omega,a2,a3,a4⟩ b4⟩
    ·have e:a.1=b.1:=by omega
     exact Inc.keep ⟨a1,a2,hΦ.add _ _ a3 (hΦ.mul _ _ hc b3),ih _ _ _ a4 (by rw[e];exact b4)⟩
def LiOk (n:Int) (l:Li):Prop:=Inc 0 n l.ts∧(l.nl=true→l.ts=[])
theorem LiOk.mono {n n':Int} (h:n≤n') {l:Li} (hl:LiOk n l):LiOk n' l:=⟨hl.1.mono h (Int.le_refl _),hl.2⟩
theorem LiOk.len {n:Int} {l:Li} (h:LiOk n l) (hn:0≤n):(l.ts.length:Int)≤n:=by have:=h.1.len hn;omega
theorem LiOk.nil (n:Int):LiOk n e8S:=⟨True.intro,fun _=>rfl⟩
theorem LiOk.term {Φ:Fo} (hΦ:Φ.Nn) {n v c:Int} (h0:0≤v) (h:v < n) (hc:0≤c):LiOk n (e8T Φ v c):=by
 unfold e8T
 split
 ·exact .nil n
 ·exact⟨⟨h0,h,hΦ.red _ hc,True.intro⟩,fun h=>by cases h⟩
theorem LiOk.const {Φ:Fo} (hΦ:Φ.Nn) {n c:Int} (h:0 < n) (hc:0≤c):LiOk n (e8U Φ c):=.term hΦ (Int.le_refl _) h hc
theorem LiOk.comb {Φ:Fo} (hΦ:Φ.Nn) {n c:Int} (hc:0≤c) {x y:Li} (hx:LiOk n x) (hy:LiOk n y):LiOk n (e8Z Φ x y c):=⟨Inc.comb hΦ hc _ _ _ _ hx.1 hy.1,fun h=>by cases h⟩
theorem LiOk.add {Φ:Fo} (hΦ:Φ.Nn) {n:Int} {x y:Li} (hx:LiOk n x) (hy:LiOk n y):LiOk n (e9A Φ x y):=.comb hΦ (by decide) hx hy
theorem LiOk.sub {Φ:Fo} (hΦ:Φ.Nn) {n:Int} {x y:Li} (hx:LiOk n x) (hy:LiOk n y):LiOk n (e9B Φ x y):=.comb hΦ (hΦ.neg _ (by decide)) hx hy
theorem LiOk.var {Φ:Fo} (hΦ:Φ.Nn) {n v:Int} (h0:0≤v) (h:v < n):LiOk n (e8V Φ v):=.term hΦ h0 h (by decide)
theorem LiOk.not {Φ:Fo} (hΦ:Φ.Nn) {n:Int} (h:0 < n) {x:Li} (hx:LiOk n x):LiOk n (e9K Φ x):=.sub hΦ (.var hΦ (Int.le_refl _) h) hx
structure BdOk (b:Bd):Prop where
 pub:0≤b.pub
 sec:0≤b.sec
 most:b.pub+b.sec≤65535
 vars:b.vars=1+b.pub+b.sec+b.hints.length
theorem BdOk.pos {b:Bd} (h:BdOk b):0 < b.vars:=by have:=h.pub;have:=h.sec;have:=h.vars;omega
def Rm (b:Bd) (k:Int):Prop:=b.vars+k≤1000000∧(b.rows.length:Int)+k≤1000000
structure Stp (b b':Bd) (r h:Int):Prop where
 pub:b'.pub=b.pub
 sec:b'.sec=b.sec
 vars:b'.vars=b.vars+h
 rows:(b'.rows.length:Int)=b.rows.length+r
 hints:(b'.hints.length:Int)=b.hints.length+h
 r0:0≤r
 h0:0≤h
theorem Stp.refl (b:Bd):Stp b b 0 0:=⟨rfl,rfl,by omega,by omega,by omega,by decide,by decide⟩
theorem Stp.trans {a b c:Bd} {r h r' h':Int} (x:Stp a b r h) (y:Stp b c r' h'):Stp a c (r+r') (h+h') :=
 ⟨y.pub.trans x.pub,y.sec.trans x.sec,by have:=x.vars;have:=y.vars;omega,by have:=x.rows;have:=y.rows;omega,by have:=x.hints;have:=y.hints;omega,by have:=x.r0;have:=y.r0;omega,by have:=x.h0;have:=y.h0;omega⟩
theorem Stp.eq {a b:Bd} {r h r' h':Int} (x:Stp a b r h) (e:r=r') (e':h=h'):Stp a b r' h':=e ▸ e' ▸ x
theorem Stp.ok {b b':Bd} {r h:Int} (x:Stp b b' r h) (hb:BdOk b):BdOk b' :=
 ⟨by rw[x.pub];exact hb.pub,by rw[x.sec];exact hb.sec,by rw[x.pub,x.sec];exact hb.most,by rw[x.pub,x.sec];have:=x.vars;have:=hb.vars;have:=x.hints;omega⟩
theorem Stp.rm {b b':Bd} {r h m:Int} (k:Int) (x:Stp b b' r h) (hm:Rm b m) (h1:r+k≤m) (h2:h+k≤m):Rm b' k:=by
 have:=x.vars;have:=x.rows
 exact⟨by have:=hm.1;omega,by have:=hm.2;omega⟩
theorem Rm.le {b:Bd} {k k':Int} (h:Rm b k) (hk:k'≤k):Rm b k':=⟨by have:=h.1;omega,by have:=h.2;omega⟩
theorem Stp.le {b b':Bd} {r h:Int} (x:Stp b b' r h):b.vars≤b'.vars:=by have:=x.vars;have:=x.h0;omega
theorem e9T (x y z:Li) (b:Bd):Stp b (e9E x y z b) 1 0:=⟨rfl,rfl,by simp [e9E],by simp [e9E],by simp [e9E],by decide,by decide⟩
theorem e9U (Φ:Fo) (x:Ht) (b:Bd):Stp b (e9D Φ x b).2 0 1:=⟨rfl,rfl,rfl,by simp [e9D],by simp [e9D],by decide,by decide⟩
theorem e9V (Φ:Fo) (x y:Li) (b:Bd):Stp b (e9F Φ x y b).2 1 1:=(e9U Φ _ b).trans (e9T _ _ _ _)
theorem e9W (Φ:Fo) (x y:Li) (b:Bd):Stp b (e9G Φ x y b) 1 0:=e9T _ _ _ _
theorem e9X (x:Li) (b:Bd):Stp b (e9H x b) 1 0:=e9T _ _ _ _
theorem e9Y (Φ:Fo) (x:Li):∀ (k:Nat) (i:Int) (ls:List Li) (ts:List (Int×Int)) (b:Bd),Stp b (e9I Φ x k i ls ts b).2.2 k k
 |0,i,ls,ts,b=>by rw[e9I];exact .refl b
 |k+1,i,ls,ts,b=>by
  rw[e9I]
  exact(((e9U Φ _ b).trans (e9X _ _)).trans (e9Y Φ x k _ _ _ _)).eq (by omega) (by omega)
theorem e9Z (Φ:Fo) (x:Li) {n:Int} (h0:0≤n) (h1:n≤62) (b:Bd):Stp b (e9J Φ x n b).2 (n+1) n:=by
 unfold e9J
 rw[if_neg (by omega)]
 exact((e9Y Φ x n.toNat 0 [] [] b).trans (e9W Φ _ _ _)).eq (by omega) (by omega)
theorem f0A (Φ:Fo) (x:Li) (b:Bd):Stp b (e9L Φ x b).2 3 2 :=
 (((e9U Φ _ b).trans (e9V Φ _ _ _)).trans ((e9T _ _ _ _).trans (e9T _ _ _ _))).eq (by decide) (by decide)
theorem f0B (Φ:Fo) (x y:Li) {n:Int} (h0:0≤n) (h1:n < 62) (b:Bd):Stp b (e9N Φ x y n b).2 (n+2) (n+1):=by
 unfold e9N
 rw[if_neg (by omega)]
 exact(e9Z Φ _ (by omega) (by omega) b).eq (by omega) rfl
def f0C (e:Int):Int:=if e=5 then 3 else if e=7 then 4 else 2
theorem f0D (e:Int):2≤f0C e∧f0C e≤4:=by
 unfold f0C
 split
 ·decide
 ·split <;> decide
theorem f0E (Φ:Fo) (x:Li) (b:Bd):Stp b (e9O Φ x b).2 (f0C Φ.ex) (f0C Φ.ex):=by
 unfold e9O f0C
 simp only
 split
 ·exact(((e9V Φ _ _ b).trans (e9V Φ _ _ _)).trans (e9V Φ _ _ _)).eq (by decide) (by decide)
 ·split
  ·exact((((e9V Φ _ _ b).trans (e9V Φ _ _ _)).trans (e9V Φ _ _ _)).trans (e9V Φ _ _ _)).eq (by decide) (by decide)
  ·exact((e9V Φ _ _ b).trans (e9V Φ _ _ _)).eq (by decide) (by decide)
theorem f0F (Φ:Fo) (r:Int) (s:Tr) (b:Bd):Stp b (e9P Φ r s b).2 (3 * f0C Φ.ex) (3 * f0C Φ.ex) :=
 (((f0E Φ _ b).trans (f0E Φ _ _)).trans (f0E Φ _ _)).eq (by omega) (by omega)
theorem f0G (Φ:Fo):∀ (k:Nat) (r:Int) (s:Tr) (b:Bd),Stp b (e9Q Φ k r s b).2 (k * (3 * f0C Φ.ex)) (k * (3 * f0C Φ.ex))
 |0,r,s,b=>by rw[e9Q];exact(Stp.refl b).eq (by simp) (by simp)
 |k+1,r,s,b=>by
  rw[e9Q]
  have e:((k+1:Nat):Int) * (3 * f0C Φ.ex)=3 * f0C Φ.ex+k * (3 * f0C Φ.ex):=by
   rw[Int.natCast_add,Int.add_mul];omega
  exact((f0F Φ r s b).trans (f0G Φ k _ _ _)).eq e.symm e.symm
def f0H (e:Int) (n:Nat):Int:=((n+1) / 2:Nat) * (24 * f0C e)
theorem f0I (Φ:Fo):∀ (l:List Li) (s:Tr) (b:Bd),Stp b (e9R Φ l s b).2 (f0H Φ.ex l.length) (f0H Φ.ex l.length)
 |[],s,b=>by rw[e9R];exact(Stp.refl b).eq (by simp [f0H]) (by simp [f0H])
 |[x],s,b=>by
  rw[e9R]
  exact(f0G Φ 8 0 _ b).eq (by simp [f0H];omega) (by simp [f0H];omega)
 |x::y::r,s,b=>by
  rw[e9R]
  have e:f0H Φ.ex (x::y::r).length=(8:Nat) * (3 * f0C Φ.ex)+f0H Φ.ex r.length:=by
   have h2:((x::y::r).length+1) / 2=1+(r.length+1) / 2:=by simp only[g3W];omega
   unfold f0H
   rw[h2,Int.natCast_add,Int.add_mul]
   omega
  exact((f0G Φ 8 0 _ b).trans (f0I Φ r _ _)).eq e.symm e.symm
theorem f0J (Φ:Fo) (v:Int) {l:List Li} (hl:l≠[]) (b:Bd):Stp b (e9S Φ v l b).2 (f0H Φ.ex l.length) (f0H Φ.ex l.length):=by
 unfold e9S
 match l,hl with
 |x::r,_=>exact f0I Φ (x::r) _ b
theorem f0K {Φ:Fo} (hΦ:Φ.Nn) {b:Bd} (hb:BdOk b) (x:Ht):LiOk (e9D Φ x b).2.vars (e9D Φ x b).1:=.var hΦ (Int.le_of_lt hb.pos) (by show b.vars < b.vars+1;omega)
theorem f0L {Φ:Fo} (hΦ:Φ.Nn) {b:Bd} (hb:BdOk b) (x y:Li):LiOk (e9F Φ x y b).2.vars (e9F Φ x y b).1:=f0K hΦ hb ⟨1,x,y,0⟩
theorem f0M {Φ:Fo} (hΦ:Φ.Nn) {b:Bd} (hb:BdOk b) (x:Li):LiOk (e9L Φ x b).2.vars (e9L Φ x b).1:=by
 have h1:=(e9U Φ ⟨2,x,e8S,0⟩ b).ok hb
 have h2:=f0L hΦ h1 x (e9D Φ ⟨2,x,e8S,0⟩ b).1
 have h3:=((e9V Φ x (e9D Φ ⟨2,x,e8S,0⟩ b).1 _).ok h1).pos
 exact .not hΦ h3 h2
theorem f0N {Φ:Fo} (hΦ:Φ.Nn) {b:Bd} (hb:BdOk b) {x y:Li} (hx:LiOk b.vars x) (hy:LiOk b.vars y):LiOk (orB Φ x y b).2.vars (orB Φ x y b).1 :=
 .sub hΦ ((LiOk.add hΦ hx hy).mono (e9V Φ x y b).le) (f0L hΦ hb x y)
theorem f0O {Φ:Fo} (hΦ:Φ.Nn) {b:Bd} (hb:BdOk b) (c:Li) {x y:Li} (hx:LiOk b.vars x) (hy:LiOk b.vars y):LiOk (e9M Φ c x y b).2.vars (e9M Φ c x y b).1 :=
 .add hΦ (hy.mono (e9V Φ c _ b).le) (f0L hΦ hb c _)
theorem f0P {Φ:Fo} (hΦ:Φ.Nn) (x:Li):∀ (k:Nat) (i:Int) (ls:List Li) (ts:List (Int×Int)) (b:Bd),BdOk b→(∀ l,l∈ls→LiOk b.vars l)→∀ l,l∈(e9I Φ x k i ls ts b).1→LiOk (e9I Φ x k i ls ts b).2.2.vars l
 |0,i,ls,ts,b,hb,h=>by rw[e9I];exact h
 |k+1,i,ls,ts,b,hb,h=>by
  rw[e9I]
  have s1:=(e9U Φ ⟨3,x,e8S,i⟩ b).trans (e9X (e9D Φ ⟨3,x,e8S,i⟩ b).1 (e9D Φ ⟨3,x,e8S,i⟩ b).2)
  refine f0P hΦ x k _ _ _ _ (s1.ok hb) fun l hl=>?_
  rcases g4F.1 hl with hl|hl
  ·exact(h l hl).mono s1.le
  ·rw[g4M.1 hl];exact f0K hΦ hb _
theorem f0Q (Φ:Fo) (x:Li):∀ (k:Nat) (i:Int) (ls:List Li) (ts:List (Int×Int)) (b:Bd),(e9I Φ x k i ls ts b).1.length=ls.length+k∧(e9I Φ x k i ls ts b).2.1.length=ts.length+k
 |0,i,ls,ts,b=>by rw[e9I];exact⟨rfl,rfl⟩
 |k+1,i,ls,ts,b=>by
  rw[e9I]
  obtain⟨h1,h2⟩:=f0Q Φ x k (i+1) (ls++[(e9D Φ ⟨3,x,e8S,i⟩ b).1]) (ts++[(b.vars,Φ.red (IntKind.u64.wrap (1 * 2 ^ min i.toNat IntKind.u64.bits)))]) (e9H (e9D Φ ⟨3,x,e8S,i⟩ b).1 (e9D Φ ⟨3,x,e8S,i⟩ b).2)
  simp only[g3V,List.length_singleton] at h1 h2
  exact⟨by omega,by omega⟩
theorem f0R {Φ:Fo} (hΦ:Φ.Nn) {b:Bd} (hb:BdOk b) (x y:Li) (n:Int):LiOk (e9N Φ x y n b).2.vars (e9N Φ x y n b).1:=by
 unfold e9N
 by_cases c:n < 0∨62≤n
 ·rw[if_pos c];exact .nil _
 ·rw[if_neg c]
  have hs:=e9Z Φ (e9B Φ (e9A Φ (e8U Φ (IntKind.u64.wrap (1 * 2 ^ min n.toNat IntKind.u64.bits))) x) y) (n:=n+1) (by omega) (by omega) b
  refine .not hΦ (hs.ok hb).pos ?_
  rw[List.getD_eq_getElem?_getD]
  generalize e9B Φ (e9A Φ (e8U Φ (IntKind.u64.wrap (1 * 2 ^ min n.toNat IntKind.u64.bits))) x) y=z at hs
  cases hi:(e9J Φ z (n+1) b).1[n.toNat]? with
  |none=>exact .nil _
  |some l =>
   have hm:=g4K hi
   unfold e9J at hm ⊢
   rw[if_neg (by omega)] at hm ⊢
   exact(f0P hΦ z _ 0 [] [] b hb (fun l hl=>by cases hl) l hm).mono (e9W Φ _ _ _).le
theorem f0S {Φ:Fo} (hΦ:Φ.Nn) {b:Bd} (hb:BdOk b) (x:Li):LiOk (e9O Φ x b).2.vars (e9O Φ x b).1:=by
 unfold e9O
 simp only
 refine f0L hΦ ?_ _ _
 have h1:=(e9V Φ x x b).ok hb
 split
 ·exact(e9V Φ _ _ _).ok h1
 ·split
  ·exact(e9V Φ _ _ _).ok ((e9V Φ _ _ _).ok h1)
  ·exact h1
def TrOk (n:Int) (s:Tr):Prop:=LiOk n s.1∧LiOk n s.2.1∧LiOk n s.2.2
theorem f0T {Φ:Fo} (hΦ:Φ.Nn) {b:Bd} (hb:BdOk b) (r:Int) (s:Tr):TrOk (e9P Φ r s b).2.vars (e9P Φ r s b).1:=by
 unfold e9P
 simp only
 have s1:=f0E Φ (e9A Φ s.1 (e8U Φ (Φ.pc r 0))) b
 have b1:=s1.ok hb
 have a1:=f0S hΦ hb (e9A Φ s.1 (e8U Φ (Φ.pc r 0)))
 generalize e9O Φ (e9A Φ s.1 (e8U Φ (Φ.pc r 0))) b=q1 at s1 b1 a1 ⊢
 have s2:=f0E Φ (e9A Φ s.2.1 (e8U Φ (Φ.pc r 1))) q1.2
 have b2:=s2.ok b1
 have a2:=f0S hΦ b1 (e9A Φ s.2.1 (e8U Φ (Φ.pc r 1)))
 generalize e9O Φ (e9A Φ s.2.1 (e8U Φ (Φ.pc r 1))) q1.2=q2 at s2 b2 a2 ⊢
 have s3:=f0E Φ (e9A Φ s.2.2 (e8U Φ (Φ.pc r 2))) q2.2
 have a3:=f0S hΦ b2 (e9A Φ s.2.2 (e8U Φ (Φ.pc r 2)))
 generalize e9O Φ (e9A Φ s.2.2 (e8U Φ (Φ.pc r 2))) q2.2=q3 at s3 a3 ⊢
 have c1:=a1.mono (Int.le_trans s2.le s3.le)
 have c2:=a2.mono s3.le
 have m:=LiOk.add hΦ (LiOk.add hΦ c1 c2) a3
 exact⟨.add hΦ c1 m,.add hΦ c2 m,.add hΦ a3 m⟩
theorem f0U {Φ:Fo} (hΦ:Φ.Nn):∀ (k:Nat) (r:Int) (s:Tr) (b:Bd),BdOk b→TrOk b.vars s→TrOk (e9Q Φ k r s b).2.vars (e9Q Φ k r s b).1
 |0,r,s,b,hb,hs=>by rw[e9Q];exact hs
 |k+1,r,s,b,hb,hs=>by
  rw[e9Q]
  exact f0U hΦ k _ _ _ ((f0F Φ r s b).ok hb) (f0T hΦ hb r s)
theorem f0V {Φ:Fo} (hΦ:Φ.Nn):∀ (l:List Li) (s:Tr) (b:Bd),BdOk b→TrOk b.vars s→(∀ x,x∈l→LiOk b.vars x)→TrOk (e9R Φ l s b).2.vars (e9R Φ l s b).1
 |[],s,b,hb,hs,hl=>by rw[e9R];exact hs
 |[x],s,b,hb,hs,hl=>by
  rw[e9R]
  exact f0U hΦ 8 0 _ b hb ⟨.add hΦ hs.1 (hl x (by simp)),hs.2⟩
 |x::y::r,s,b,hb,hs,hl=>by
  rw[e9R]
  have h1:=f0U hΦ 8 0 (e9A Φ s.1 x,e9A Φ s.2.1 y,s.2.2) b hb ⟨.add hΦ hs.1 (hl x (by simp)),.add hΦ hs.2.1 (hl y (by simp)),hs.2.2⟩
  have h2:=f0G Φ 8 0 (e9A Φ s.1 x,e9A Φ s.2.1 y,s.2.2) b
  exact f0V hΦ r _ _ (h2.ok hb) h1 fun z hz=>(hl z (by simp [hz])).mono h2.le
theorem f0W {Φ:Fo} (hΦ:Φ.Nn) {b:Bd} (hb:BdOk b) {v:Int} (hv:0≤v) {l:List Li} (hl:∀ x,x∈l→LiOk b.vars x):LiOk (e9S Φ v l b).2.vars (e9S Φ v l b).1:=by
 have h0:TrOk b.vars (e8S,e8S,e8U Φ (Φ.add (Φ.mul v 65536) l.length)):=⟨.nil _,.nil _,.const hΦ hb.pos (hΦ.add _ _ (hΦ.mul _ _ hv (by decide)) (by omega))⟩
 unfold e9S
 match l,hl with
 |[],_=>exact(f0U hΦ 8 0 _ b hb h0).1
 |x::r,hl=>exact(f0V hΦ (x::r) _ b hb h0 hl).1
end Go.Ky

/- KX 84: the compiler as a model: values, names, statements, calls, inputs; the circuit. No program in sight. -/
namespace Go.Ky
open Go.Pi Go.Lx
structure Vc where
 els:List Li
 typ:Ty
 num:Int
abbrev Sx:=List (Nm×Vc)
structure Cst where
 b:Bd
 rows:Int
 full:Bool
abbrev Fc:=Nm→List Vc→Cst→Vc×Cst
def zVc:Vc:=⟨[],zTy,0⟩
def f0X (l:Li) (t:Ty):Vc:=⟨[l],t,0⟩
def f0Y (v:Vc):Li:=v.els.getD 0 e8S
def f0Z (n:Int) (s:Cst):Bool:=!(s.full || decide (n > 16384 - s.rows))
def f1A (n:Int) (s:Cst):Cst:=if f0Z n s then ⟨s.b,s.rows+n,s.full⟩ else ⟨s.b,s.rows,true⟩
def f1B (n:Int) (g:Bd→Li×Bd) (s:Cst):Li×Cst:=if f0Z n s then ((g s.b).1,⟨(g s.b).2,s.rows+n,s.full⟩) else (e8S,⟨s.b,s.rows,true⟩)
def f1C (n:Int) (g:Bd→Bd) (s:Cst):Cst:=if f0Z n s then ⟨g s.b,s.rows+n,s.full⟩ else ⟨s.b,s.rows,true⟩
def f1D (vs:List Vc):Ty:=if vs.all (fun v=>decide (v.typ=(vs.getD 0 zVc).typ)) then (vs.getD 0 zVc).typ else d1V
def f1E (e:Int):Int:=if e=3 then 2 else if e=5 then 3 else if e=7 then 4 else 0
def f1F (Φ:Fo) (v:Int) (l:List Li) (s:Cst):Li×Cst:=f1B (((l.length:Int)+1) / 2 * 8 * 3 * f1E Φ.ex) (e9S Φ v l) s
def f1G (Φ:Fo) (op:Int) (l:List Li) (s:Cst):Li×Cst :=
 if op=9 then (e9C Φ (l.getD 0 e8S) (Φ.p - 1),s)
 else if op=12 then (e9A Φ (l.getD 0 e8S) (l.getD 1 e8S),s)
 else if op=13 then (e9B Φ (l.getD 0 e8S) (l.getD 1 e8S),s)
 else f1B 1 (e9F Φ (l.getD 0 e8S) (l.getD 1 e8S)) s
def f1H (Φ:Fo) (op:Int) (l:List Li) (w:Int) (s:Cst):Li×Cst :=
 f1B (w+2) (fun b=>if op=17 then (e9K Φ (e9N Φ (l.getD 1 e8S) (l.getD 0 e8S) w b).1,(e9N Φ (l.getD 1 e8S) (l.getD 0 e8S) w b).2) else e9N Φ (l.getD 0 e8S) (l.getD 1 e8S) w b) s
def f1I (Φ:Fo) (op:Int) (l:List Li) (s:Cst):Li×Cst :=
 if op=3 then (e8U Φ 1,s)
 else if op=10 then (e9K Φ (l.getD 0 e8S),s)
 else if op=18 then f1B 1 (e9F Φ (l.getD 0 e8S) (l.getD 1 e8S)) s
 else if op=19 then f1B 1 (orB Φ (l.getD 0 e8S) (l.getD 1 e8S)) s
 else if op=14 then f1B 3 (eqB Φ (l.getD 0 e8S) (l.getD 1 e8S)) s
 else if op=15 then f1B 3 (fun b=>(e9K Φ (eqB Φ (l.getD 0 e8S) (l.getD 1 e8S) b).1,(eqB Φ (l.getD 0 e8S) (l.getD 1 e8S) b).2)) s
 else (e8S,s)
def f1J (Φ:Fo) (c:Li):List Li→List Li→Cst→List Li×Cst
 |x::xs,y::ys,s =>
  let q:=f1B 1 (e9M Φ c x y) s
  let r:=f1J Φ c xs ys q.2
  (q.1::r.1,r.2)
 |_,_,s=>([],s)
def f1K (Φ:Fo) (c:Li) (x y:Vc) (s:Cst):Vc×Cst:=(⟨(f1J Φ c x.els y.els s).1,f1D [x,y],0⟩,(f1J Φ c x.els y.els s).2)
def opC (Φ:Fo) (Ψ:Fc) (op val:Int) (nm:Nm) (vs:List Vc) (s:Cst):Vc×Cst :=
 if op=1 then (f0X (e8U Φ val) (d3Q val),s)
 else if op=5 then Ψ nm vs s
 else if op=6 then (f0X (f1F Φ val (vs.map f0Y) s).1 d1V,(f1F Φ val (vs.map f0Y) s).2)
 else if op=7 then (⟨vs.map f0Y,⟨(f1D vs).kind,(f1D vs).bits,(vs.length:Int)⟩,0⟩,s)
 else if op=20 then f1K Φ (f0Y (vs.getD 0 zVc)) (vs.getD 1 zVc) (vs.getD 2 zVc) s
 else if op=9∨op=11∨op=12∨op=13 then (f0X (f1G Φ op (vs.map f0Y) s).1 d1V,(f1G Φ op (vs.map f0Y) s).2)
 else if op=16∨op=17 then (f0X (f1H Φ op (vs.map f0Y) (mx (vs.getD 0 zVc).typ.bits (vs.getD 1 zVc).typ.bits) s).1 d1W,(f1H Φ op (vs.map f0Y) (mx (vs.getD 0 zVc).typ.bits (vs.getD 1 zVc).typ.bits) s).2)
 else (f0X (f1I Φ op (vs.map f0Y) s).1 d1W,(f1I Φ op (vs.map f0Y) s).2)
def lkC (nm:Nm) (sc:Sx):Vc:=(look nm sc).getD zVc
def f1L (e:Exp) (sc:Sx):Int :=
 if e.op=2 then (lkC e.name sc).num
 else if e.op=12 then IntKind.i64.wrap ((lkC (e.args.getD 0 default).name sc).num+IntKind.i64.wrap (e.args.getD 1 default).val)
 else if e.op=13 then IntKind.i64.wrap ((lkC (e.args.getD 0 default).name sc).num - IntKind.i64.wrap (e.args.getD 1 default).val)
 else IntKind.i64.wrap e.val
mutual
def evC (Φ:Fo) (Ψ:Fc) (sc:Sx):Exp→Cst→Vc×Cst
 |.mk op val nm _ l,s =>
  if op=2 then (lkC nm sc,s)
  else if op=8 then (match l with
   |a::b::_=>let q:=evC Φ Ψ sc a s;(f0X (q.1.els.getD (f1L b sc).toNat e8S) ⟨q.1.typ.kind,q.1.typ.bits,0⟩,q.2)
   |_=>(zVc,s))
  else let q:=f1M Φ Ψ sc l s;opC Φ Ψ op val nm q.1 q.2
def f1M (Φ:Fo) (Ψ:Fc) (sc:Sx):List Exp→Cst→List Vc×Cst
 |[],s=>([],s)
 |a::r,s=>let q:=evC Φ Ψ sc a s;let q2:=f1M Φ Ψ sc r q.2;(q.1::q2.1,q2.2)
end
theorem f1N (Φ:Fo) (Ψ:Fc) (sc:Sx) (e:Exp) (s:Cst):evC Φ Ψ sc e s=if e.op=2 then (lkC e.name sc,s)
  else if e.op=8 then (match e.args with
   |a::b::_=>(f0X ((evC Φ Ψ sc a s).1.els.getD (f1L b sc).toNat e8S) ⟨(evC Φ Ψ sc a s).1.typ.kind,(evC Φ Ψ sc a s).1.typ.bits,0⟩,(evC Φ Ψ sc a s).2)
   |_=>(zVc,s))
  else opC Φ Ψ e.op e.val e.name (f1M Φ Ψ sc e.args s).1 (f1M Φ Ψ sc e.args s).2:=by
 cases e with|mk op v n b l =>
 rcases l with _|⟨x,_|⟨y,r⟩⟩ <;> (simp only[evC];rfl)
def f1O (Φ:Fo) (x:Li) (t:Ty) (s:Cst):Cst :=
 if t.kind=2 then f1C 1 (e9H x) s
 else if t.kind=3 then f1C (t.bits+1) (fun b=>(e9J Φ x t.bits b).2) s
 else s
def itC (f:Int→Sx→Cst→Sx×Cst):Nat→Int→Sx→Cst→Sx×Cst
 |0,_,sc,s=>(sc,s)
 |k+1,n,sc,s=>if s.full then (sc,s) else itC f k (n+1) (f n sc s).1 (f n sc s).2
def f1P (Φ:Fo) (typed:Bool) (ty:Ty) (q:Vc×Cst):Vc×Cst :=
 if typed then (⟨q.1.els,ty,q.1.num⟩,if ty.len=0 then f1O Φ (f0Y q.1) ty q.2 else q.2) else q
mutual
def stC (Φ:Fo) (Ψ:Fc):St→Sx→Cst→Sx×Cst
 |.mk k nm typed ty e lo hi nl l,sc,s =>
  if k=1 then (e6Z nm (f1P Φ typed ty (evC Φ Ψ sc e s)).1 sc,(f1P Φ typed ty (evC Φ Ψ sc e s)).2)
  else if k=2 then (sc,f1C 1 (e9G Φ (f0Y (evC Φ Ψ sc e s).1) (e8U Φ 1)) (evC Φ Ψ sc e s).2)
  else if k=3 then (if idS (.mk k nm typed ty e lo hi nl l) then (sc,s) else itC (fun n sc1 s1=>f1Q Φ Ψ l (e6Z nm ⟨[e8U Φ n],d1V,n⟩ sc1) s1) (hi - lo).toNat lo sc s)
  else (sc,s)
def f1Q (Φ:Fo) (Ψ:Fc):List St→Sx→Cst→Sx×Cst
 |[],sc,s=>(sc,s)
 |x::r,sc,s=>if s.full then (sc,s) else f1Q Φ Ψ r (stC Φ Ψ x sc s).1 (stC Φ Ψ x sc s).2
end
theorem f1R (Φ:Fo) (Ψ:Fc) (x:St) (sc:Sx) (s:Cst):stC Φ Ψ x sc s =
  if x.kind=1 then (e6Z x.name (f1P Φ x.typed x.ty (evC Φ Ψ sc x.ex s)).1 sc,(f1P Φ x.typed x.ty (evC Φ Ψ sc x.ex s)).2)
  else if x.kind=2 then (sc,f1C 1 (e9G Φ (f0Y (evC Φ Ψ sc x.ex s).1) (e8U Φ 1)) (evC Φ Ψ sc x.ex s).2)
  else if x.kind=3 then (if idS x then (sc,s) else itC (fun n sc1 s1=>f1Q Φ Ψ x.body (e6Z x.name ⟨[e8U Φ n],d1V,n⟩ sc1) s1) (x.hi - x.lo).toNat x.lo sc s)
  else (sc,s):=by
 cases x
 rw[stC];rfl
def f1S:List Pa→List Vc→Sx→Sx
 |p::r,v::l,sc=>f1S r l (e6Z p.name ⟨v.els,p.ty,0⟩ sc)
 |_,_,sc=>sc
def f1T (Φ:Fo) (Ψ:Fc) (f:Fu) (vs:List Vc) (s:Cst):Vc×Cst :=
 let q:=f1Q Φ Ψ f.body (f1S f.params vs []) s
 if q.2.full then (⟨List.replicate (e7G f.res.len).toNat e8S,f.res,0⟩,q.2)
 else (⟨(evC Φ Ψ q.1 f.ret q.2).1.els,f.res,(evC Φ Ψ q.1 f.ret q.2).1.num⟩,(evC Φ Ψ q.1 f.ret q.2).2)
def fc0:Fc:=fun _ _ s=>(zVc,s)
def fcS (Φ:Fo) (f:Fu) (Ψ:Fc):Fc:=fun nm vs s=>if nm=f.name then f1T Φ Ψ f vs s else Ψ nm vs s
def f1U (Φ:Fo):List Fu→Fc→Fc
 |[],Ψ=>Ψ
 |f::r,Ψ=>f1U Φ r (fcS Φ f Ψ)
def f1V (Φ:Fo) (t:Ty):Nat→Int→List Li→Cst→List Li×Cst
 |0,_,ls,s=>(ls,s)
 |k+1,i,ls,s=>f1V Φ t k (i+1) (ls++[e8V Φ (1+i)]) (f1O Φ (e8V Φ (1+i)) t s)
def inC (Φ:Fo):List De→Int→Int→Sx→Cst→Sx×Cst
 |[],_,_,sc,s=>(sc,s)
 |d::r,a,c,sc,s =>
  let n:=(e7G d.ty.len).toNat
  let q:=f1V Φ d.ty n (if d.pub then a else c) [] s
  inC Φ r (if d.pub then a+n else a) (if d.pub then c else c+n) (e6Z d.name ⟨q.1,d.ty,0⟩ sc) q.2
def f1W (pu se:Int):Bd:=⟨pu,se,1+pu+se,[],[]⟩
def f1X (Φ:Fo) (p:Pg) (pu se:Int):Cst :=
 let q:=inC Φ p.decls 0 pu [] ⟨f1W pu se,0,false⟩
 (f1Q Φ (f1U Φ p.funcs fc0) p.body q.1 q.2).2
def compC (Φ:Fo) (p:Pg) (kn:Bool):Option Bd×Int :=
 if (d4W p).2.2≠0 then (none,(d4W p).2.2)
 else if ¬(kn=true∧Φ.p > 2 ^ (d4W p).1.toNat) then (none,7)
 else if (d7U p).1+(d7U p).2≥65536 then (none,3)
 else
  let s:=f1X Φ p (d7U p).1 (d7U p).2
  if s.full then (none,3)
  else if (s.b.rows.length:Int) > 16384∨s.b.vars > 65536 then (none,3)
  else (some s.b,0)
theorem f1Y (Φ:Fo) (Ψ:Fc) (l:List St) (sc:Sx) {s:Cst} (h:s.full=true):f1Q Φ Ψ l sc s=(sc,s):=by
 cases l with
 |nil=>rw[f1Q]
 |cons x r=>rw[f1Q,if_pos h]
theorem f1Z (Φ:Fo) (Ψ:Fc) (x:St) (r:List St) (sc:Sx) {s:Cst} (h:s.full=false):f1Q Φ Ψ (x::r) sc s=f1Q Φ Ψ r (stC Φ Ψ x sc s).1 (stC Φ Ψ x sc s).2:=by
 rw[f1Q,if_neg (by rw[h];decide)]
end Go.Ky

/- KX 85: what the checker lets through: the compiler's values have the right lengths, its state stays in order. No program in sight. -/
namespace Go.Ky
open Go.Pi Go.Lx
structure Fo.Ok (Φ:Fo):Prop where
 nn:Φ.Nn
 ex:Φ.ex=3∨Φ.ex=5∨Φ.ex=7
 p1:1≤Φ.p
structure CsOk (s:Cst):Prop where
 b:BdOk s.b
 rows:(s.b.rows.length:Int)≤s.rows
 r0:0≤s.rows
 le:s.rows≤16384
 hs:s.b.hints.length≤s.b.rows.length
structure Cle (s s':Cst):Prop where
 vars:s.b.vars≤s'.b.vars
 full:s.full=true→s'.full=true
 pub:s'.b.pub=s.b.pub
 sec:s'.b.sec=s.b.sec
theorem Cle.refl (s:Cst):Cle s s:=⟨Int.le_refl _,id,rfl,rfl⟩
theorem Cle.trans {a b c:Cst} (x:Cle a b) (y:Cle b c):Cle a c:=⟨Int.le_trans x.vars y.vars,fun h=>y.full (x.full h),y.pub.trans x.pub,y.sec.trans x.sec⟩
theorem CsOk.rm {s:Cst} (h:CsOk s) {k:Int} (hk:k≤300000):Rm s.b k:=by
 have h1:=h.b.most
 have h2:=h.b.vars
 have h3:=h.rows
 have h4:=h.le
 have h5:=h.hs
 exact⟨by omega,by omega⟩
theorem CsOk.vars {s:Cst} (h:CsOk s):0 < s.b.vars∧s.b.vars≤100000:=by
 have h1:=h.b.most
 have h2:=h.b.vars
 have h3:=h.rows
 have h4:=h.le
 have h5:=h.hs
 exact⟨h.b.pos,by omega⟩
theorem f2A {n:Int} {s:Cst} (h:f0Z n s=true):s.full=false∧n≤16384 - s.rows:=by
 unfold f0Z at h
 simp only[Bool.not_eq_true',g2T,g5J] at h
 exact⟨h.1,by omega⟩
theorem f2B {s:Cst} (h:CsOk s) {n:Int} (hr:f0Z n s=true) {b':Bd} {r k:Int} (hs:Stp s.b b' r k) (h1:r≤n) (h2:k≤r):CsOk ⟨b',s.rows+n,s.full⟩∧Cle s ⟨b',s.rows+n,s.full⟩:=by
 obtain⟨_,hn⟩:=f2A hr
 have e1:=hs.rows
 have e2:=hs.hints
 have e3:=hs.r0
 have e4:=h.rows
 have e5:=h.r0
 have e6:=h.hs
 refine⟨⟨hs.ok h.b,?_,?_,?_,?_⟩,⟨hs.le,id,hs.pub,hs.sec⟩⟩
 ·show(b'.rows.length:Int)≤s.rows+n;omega
 ·show 0≤s.rows+n;omega
 ·show s.rows+n≤16384;omega
 ·show b'.hints.length≤b'.rows.length;omega
theorem f2C {s:Cst} (h:CsOk s):CsOk ⟨s.b,s.rows,true⟩∧Cle s ⟨s.b,s.rows,true⟩:=⟨⟨h.b,h.rows,h.r0,h.le,h.hs⟩,⟨Int.le_refl _,fun _=>rfl,rfl,rfl⟩⟩
theorem f2D {s:Cst} (h:CsOk s) {n:Int} {g:Bd→Li×Bd} {r k:Int} (hs:Stp s.b (g s.b).2 r k) (h1:r≤n) (h2:k≤r) (hl:LiOk (g s.b).2.vars (g s.b).1):CsOk (f1B n g s).2∧Cle s (f1B n g s).2∧LiOk (f1B n g s).2.b.vars (f1B n g s).1:=by
 unfold f1B
 cases hr:f0Z n s with
 |true =>
  rw[if_pos rfl]
  obtain⟨a,b⟩:=f2B h hr hs h1 h2
  exact⟨a,b,hl⟩
 |false =>
  rw[if_neg (by simp)]
  obtain⟨a,b⟩:=f2C h
  exact⟨a,b,.nil _⟩
theorem f2E {s:Cst} (h:CsOk s) {n:Int} {g:Bd→Bd} {r k:Int} (hs:Stp s.b (g s.b) r k) (h1:r≤n) (h2:k≤r):CsOk (f1C n g s)∧Cle s (f1C n g s):=by
 unfold f1C
 cases hr:f0Z n s with
 |true =>
  rw[if_pos rfl]
  exact f2B h hr hs h1 h2
 |false =>
  rw[if_neg (by simp)]
  exact f2C h
def TyG (t:Ty):Prop:=0≤t.bits∧t.bits≤62
theorem f2F {t:Ty} (h:tyB t=true):TyG t:=by
 unfold tyB at h
 unfold TyG
 split at h
 ·cases h
 ·split at h
  ·simp only[g5L] at h;omega
  ·split at h
   ·simp only[g2R,g5L] at h;omega
   ·cases h
theorem f2G:TyG d1V:=⟨by decide,by decide⟩
theorem f2H:TyG d1W:=⟨by decide,by decide⟩
theorem f2I {n:Int} (h0:0≤n):TyG (d3Q n):=by
 unfold d3Q
 split
 ·exact f2G
 ·rename_i c
  have hz:0≤d3P n∧d3P n≤62:=by
   unfold d3P
   split
   ·exact⟨by decide,by decide⟩
   ·have hl:n.toNat.log2 < 62:=(Nat.log2_lt (by omega)).2 (by
     have:(2:Nat) ^ 62=4611686018427387904:=by decide
     omega)
    exact⟨by omega,by omega⟩
  unfold TyG
  show 0≤(if d3P n > 1 then d3P n else 1)∧(if d3P n > 1 then d3P n else 1)≤62
  split <;> omega
structure VcOk (m n:Int) (v:Vc):Prop where
 n0:0≤n
 n1:n≤B20
 len:(v.els.length:Int)=e7G n
 els:∀ x,x∈v.els→LiOk m x
 ty:TyG v.typ
theorem VcOk.mono {m m' n:Int} (h:m≤m') {v:Vc} (hv:VcOk m n v):VcOk m' n v:=⟨hv.n0,hv.n1,hv.len,fun x hx=>(hv.els x hx).mono h,hv.ty⟩
theorem VcOk.one {m:Int} {l:Li} {t:Ty} (h:LiOk m l) (ht:TyG t):VcOk m 0 (f0X l t):=⟨Int.le_refl _,by decide,rfl,fun x hx=>by
 have:x=l:=by simpa [f0X] using hx
 rw[this];exact h,ht⟩
theorem f2J {m:Int} {l:List Li} (h:∀ x,x∈l→LiOk m x) (i:Nat):LiOk m (l.getD i e8S):=by
 rw[List.getD_eq_getElem?_getD]
 cases hi:l[i]? with
 |none=>exact .nil m
 |some x=>exact h x (g4K hi)
theorem VcOk.fst {m n:Int} {v:Vc} (h:VcOk m n v):LiOk m (f0Y v):=f2J h.els 0
theorem VcOk.pos {m n:Int} {v:Vc} (h:VcOk m n v):0 < v.els.length:=by
 have h1:=h.len
 have h2:=h.n0
 unfold e7G at h1
 split at h1 <;> omega
def VsC (m:Int):List Ty→List Vc→Prop
 |[],[]=>True
 |t::ts,v::vs=>VcOk m t.len v∧VsC m ts vs
 |_,_=>False
def PsC (m:Int):List Pa→List Vc→Prop
 |[],[]=>True
 |t::ts,v::vs=>VcOk m t.ty.len v∧PsC m ts vs
 |_,_=>False
theorem VsC.mono {m m':Int} (hm:m≤m'):∀ {ts:List Ty} {vs:List Vc},VsC m ts vs→VsC m' ts vs
 |[],[],_=>True.intro
 |t::ts,v::vs,h=>⟨h.1.mono hm,h.2.mono hm⟩
 |[],v::vs,h=>h.elim
 |t::ts,[],h=>h.elim
theorem PsC.mono {m m':Int} (hm:m≤m'):∀ {ts:List Pa} {vs:List Vc},PsC m ts vs→PsC m' ts vs
 |[],[],_=>True.intro
 |t::ts,v::vs,h=>⟨h.1.mono hm,h.2.mono hm⟩
 |[],v::vs,h=>h.elim
 |t::ts,[],h=>h.elim
theorem VsC.len {m:Int}:∀ {ts:List Ty} {vs:List Vc},VsC m ts vs→vs.length=ts.length
 |[],[],_=>rfl
 |t::ts,v::vs,h=>by simp [VsC.len h.2]
 |[],v::vs,h=>h.elim
 |t::ts,[],h=>h.elim
theorem PsC.len {m:Int}:∀ {ts:List Pa} {vs:List Vc},PsC m ts vs→vs.length=ts.length
 |[],[],_=>rfl
 |t::ts,v::vs,h=>by simp [PsC.len h.2]
 |[],v::vs,h=>h.elim
 |t::ts,[],h=>h.elim
theorem VsC.at {m:Int}:∀ {ts:List Ty} {vs:List Vc},VsC m ts vs→∀ i,i < ts.length→VcOk m (ts.getD i zTy).len (vs.getD i zVc)
 |[],[],_,i,hi=>absurd hi (by simp)
 |t::ts,v::vs,h,0,_=>by simpa using h.1
 |t::ts,v::vs,h,i+1,hi=>by simpa using VsC.at h.2 i (by simpa using hi)
 |[],v::vs,h,_,_=>h.elim
 |t::ts,[],h,_,_=>h.elim
theorem VsC.mem {m:Int}:∀ {ts:List Ty} {vs:List Vc},VsC m ts vs→∀ v,v∈vs→∃ n,VcOk m n v
 |[],[],_,v,hv=>by cases hv
 |t::ts,v::vs,h,x,hx=>by
  rcases g4G.1 hx with e|e
  ·subst e;exact⟨_,h.1⟩
  ·exact VsC.mem h.2 x e
 |[],v::vs,h,_,_=>h.elim
 |t::ts,[],h,_,_=>h.elim
theorem VsC.fsts {m:Int} {ts:List Ty} {vs:List Vc} (h:VsC m ts vs):∀ n,n∈vs.map f0Y→LiOk m n:=by
 intro n hn
 obtain⟨v,hv,rfl⟩:=List.mem_map.1 hn
 obtain⟨k,hk⟩:=h.mem v hv
 exact hk.fst
theorem f2K {m:Int} {ts:List Ty} {vs:List Vc} (h:VsC m ts vs):TyG (f1D vs):=by
 unfold f1D
 split
 ·cases vs with
  |nil=>exact⟨by decide,by decide⟩
  |cons v r =>
   obtain⟨n,hn⟩:=h.mem v (by simp)
   exact hn.ty
 ·exact f2G
theorem f2L {m:Int}:∀ (ts:List Ty) (ps:List Pa) (vs:List Vc),VsC m ts vs→ts.length=ps.length→d3U ts ps=true→PsC m ps vs
 |[],[],[],_,_,_=>True.intro
 |t::ts,p::ps,v::vs,h,hl,hf=>by
  simp only[d3U,g2R] at hf
  obtain⟨f1,f2⟩:=hf
  refine⟨?_,f2L ts ps vs h.2 (by simpa using hl) f2⟩
  rw[←e7Y f1];exact h.1
 |[],[],v::vs,h,_,_=>h.elim
 |[],p::ps,_,_,hl,_=>by simp at hl
 |t::ts,[],_,_,hl,_=>by simp at hl
 |t::ts,p::ps,[],h,_,_=>h.elim
structure Ro (s:Cst) (n:Int) (q:Vc×Cst):Prop where
 cs:CsOk q.2
 le:Cle s q.2
 v:VcOk q.2.b.vars n q.1
def FcOk (fs:Fs) (Ψ:Fc):Prop:=∀ nm f,look nm fs=some f→∀ vs s,CsOk s→PsC s.b.vars f.params vs→Ro s f.res.len (Ψ nm vs s)
def ScC (m:Int) (ns:Ns) (sc:Sx):Prop:=∀ nm s,look nm ns=some s→∃ v,look nm sc=some v∧VcOk m s.typ.len v∧(s.loop=true→0≤s.low∧s.high≤1000000∧s.low≤v.num∧v.num < s.high)
theorem ScC.mono {m m':Int} (h:m≤m') {ns:Ns} {sc:Sx} (hs:ScC m ns sc):ScC m' ns sc:=fun nm s hn=>by
 obtain⟨v,h1,h2,h3⟩:=hs nm s hn
 exact⟨v,h1,h2.mono h,h3⟩
theorem f2M {s:Cst} {l:Li×Cst} {t:Ty} (h:CsOk l.2∧Cle s l.2∧LiOk l.2.b.vars l.1) (ht:TyG t):Ro s 0 (f0X l.1 t,l.2):=⟨h.1,h.2.1,.one h.2.2 ht⟩
theorem f2N {e:Int} (he:e=3∨e=5∨e=7) (n:Nat):f0H e n≤((n:Int)+1) / 2 * 8 * 3 * f1E e:=by
 unfold f0H f0C f1E
 rcases he with rfl|rfl|rfl <;> simp <;> omega
theorem f2O {Φ:Fo} (hΦ:Φ.Ok) {v:Int} (hv:0≤v) {l:List Li} (h0:l≠[]) {s:Cst} (hs:CsOk s) (hl:∀ x,x∈l→LiOk s.b.vars x):CsOk (f1F Φ v l s).2∧Cle s (f1F Φ v l s).2∧LiOk (f1F Φ v l s).2.b.vars (f1F Φ v l s).1 :=
 f2D hs (f0J Φ v h0 s.b) (f2N hΦ.ex _) (Int.le_refl _) (f0W hΦ.nn hs.b hv hl)
theorem f2P {Φ:Fo} (hΦ:Φ.Nn) {n c:Int} {x:Li} (hc:0≤c) (hx:LiOk n x):LiOk n (e9C Φ x c):=.comb hΦ hc (.nil n) hx
theorem f2Q {Φ:Fo} (hΦ:Φ.Ok) (op:Int) {l:List Li} {s:Cst} (hs:CsOk s) (hl:∀ x,x∈l→LiOk s.b.vars x):CsOk (f1G Φ op l s).2∧Cle s (f1G Φ op l s).2∧LiOk (f1G Φ op l s).2.b.vars (f1G Φ op l s).1:=by
 have l0:=f2J hl 0
 have l1:=f2J hl 1
 have hp:=hΦ.p1
 unfold f1G
 split
 ·exact⟨hs,.refl s,f2P hΦ.nn (by omega) l0⟩
 ·split
  ·exact⟨hs,.refl s,.add hΦ.nn l0 l1⟩
  ·split
   ·exact⟨hs,.refl s,.sub hΦ.nn l0 l1⟩
   ·exact f2D hs (e9V Φ _ _ _) (Int.le_refl _) (Int.le_refl _) (f0L hΦ.nn hs.b _ _)
theorem f2R (Φ:Fo) (x y:Li) {n:Int} (h0:0≤n) (b:Bd):∃ r h,Stp b (e9N Φ x y n b).2 r h∧r≤n+2∧h≤r:=by
 by_cases c:n < 62
 ·exact⟨_,_,f0B Φ x y h0 c b,Int.le_refl _,by omega⟩
 ·refine⟨0,0,?_,by omega,Int.le_refl _⟩
  unfold e9N
  rw[if_pos (by omega)]
  exact .refl b
theorem f2S {Φ:Fo} (hΦ:Φ.Ok) (op:Int) {l:List Li} {w:Int} (hw:0≤w) {s:Cst} (hs:CsOk s):CsOk (f1H Φ op l w s).2∧Cle s (f1H Φ op l w s).2∧LiOk (f1H Φ op l w s).2.b.vars (f1H Φ op l w s).1:=by
 unfold f1H
 by_cases c:op=17
 ·simp only[c,if_true]
  obtain⟨r,h,x1,x2,x3⟩:=f2R Φ (l.getD 1 e8S) (l.getD 0 e8S) hw s.b
  exact f2D (g:=fun b=>(e9K Φ (e9N Φ (l.getD 1 e8S) (l.getD 0 e8S) w b).1,(e9N Φ (l.getD 1 e8S) (l.getD 0 e8S) w b).2)) hs x1 x2 x3 (.not hΦ.nn (x1.ok hs.b).pos (f0R hΦ.nn hs.b _ _ _))
 ·simp only[c,if_false]
  obtain⟨r,h,x1,x2,x3⟩:=f2R Φ (l.getD 0 e8S) (l.getD 1 e8S) hw s.b
  exact f2D (g:=fun b=>e9N Φ (l.getD 0 e8S) (l.getD 1 e8S) w b) hs x1 x2 x3 (f0R hΦ.nn hs.b _ _ _)
theorem f2T {Φ:Fo} (hΦ:Φ.Ok) (op:Int) {l:List Li} {s:Cst} (hs:CsOk s) (hl:∀ x,x∈l→LiOk s.b.vars x):CsOk (f1I Φ op l s).2∧Cle s (f1I Φ op l s).2∧LiOk (f1I Φ op l s).2.b.vars (f1I Φ op l s).1:=by
 have l0:=f2J hl 0
 have l1:=f2J hl 1
 unfold f1I
 split
 ·exact⟨hs,.refl s,.const hΦ.nn hs.b.pos (by decide)⟩
 split
 ·exact⟨hs,.refl s,.not hΦ.nn hs.b.pos l0⟩
 split
 ·exact f2D hs (e9V Φ _ _ _) (Int.le_refl _) (Int.le_refl _) (f0L hΦ.nn hs.b _ _)
 split
 ·exact f2D (g:=orB Φ (l.getD 0 e8S) (l.getD 1 e8S)) hs (e9V Φ _ _ _) (Int.le_refl _) (Int.le_refl _) (f0N hΦ.nn hs.b l0 l1)
 split
 ·exact f2D (g:=eqB Φ (l.getD 0 e8S) (l.getD 1 e8S)) hs (f0A Φ _ _) (Int.le_refl _) (by decide) (f0M hΦ.nn hs.b _)
 split
 ·exact f2D (g:=fun b=>(e9K Φ (eqB Φ (l.getD 0 e8S) (l.getD 1 e8S) b).1,(eqB Φ (l.getD 0 e8S) (l.getD 1 e8S) b).2)) hs (f0A Φ _ _) (Int.le_refl _) (by decide) (.not hΦ.nn ((f0A Φ _ _).ok hs.b).pos (f0M hΦ.nn hs.b _))
 ·exact⟨hs,.refl s,.nil _⟩
theorem f2U {Φ:Fo} (hΦ:Φ.Ok) (c:Li) {x y:Li} {s:Cst} (hs:CsOk s) (hx:LiOk s.b.vars x) (hy:LiOk s.b.vars y):CsOk (f1B 1 (e9M Φ c x y) s).2∧Cle s (f1B 1 (e9M Φ c x y) s).2∧LiOk (f1B 1 (e9M Φ c x y) s).2.b.vars (f1B 1 (e9M Φ c x y) s).1 :=
 f2D (g:=e9M Φ c x y) hs (e9V Φ _ _ _) (Int.le_refl _) (Int.le_refl _) (f0O hΦ.nn hs.b c hx hy)
theorem f2V {Φ:Fo} (hΦ:Φ.Ok) (c:Li):∀ (xs ys:List Li) (s:Cst),xs.length=ys.length→CsOk s→(∀ x,x∈xs→LiOk s.b.vars x)→(∀ x,x∈ys→LiOk s.b.vars x)→CsOk (f1J Φ c xs ys s).2∧Cle s (f1J Φ c xs ys s).2∧(f1J Φ c xs ys s).1.length=xs.length∧∀ x,x∈(f1J Φ c xs ys s).1→LiOk (f1J Φ c xs ys s).2.b.vars x
 |[],[],s,_,hs,_,_=>⟨hs,.refl s,rfl,fun x hx=>by cases hx⟩
 |x::xs,y::ys,s,hl,hs,hx,hy=>by
  rw[f1J]
  obtain⟨a1,a2,a3⟩:=f2U hΦ c hs (hx x (by simp)) (hy y (by simp))
  obtain⟨b1,b2,b3,b4⟩:=f2V hΦ c xs ys (f1B 1 (e9M Φ c x y) s).2 (by simpa using hl) a1 (fun z hz=>(hx z (by simp [hz])).mono a2.vars) (fun z hz=>(hy z (by simp [hz])).mono a2.vars)
  refine⟨b1,a2.trans b2,by simp [b3],fun z hz=>?_⟩
  rcases g4G.1 hz with rfl|hz
  ·exact a3.mono b2.vars
  ·exact b4 z hz
 |[],y::ys,s,hl,_,_,_=>by simp at hl
 |x::xs,[],s,hl,_,_,_=>by simp at hl
theorem f2W {Φ:Fo} (hΦ:Φ.Ok) {Ψ:Fc} {fs:Fs} (hΨ:FcOk fs Ψ) {ns:Ns} {op val:Int} {nm:Nm} {ts:List Ty} {vs:List Vc} {w:Int} {s:Cst} (hs:CsOk s) (hv:0≤val) (h2:op≠2) (h8:op≠8) (hl:ts.length≤B20) (hB:opB op (ts.length:Int) val nm=true) (h:VsC s.b.vars ts vs) (he:(opM fs ns op val nm ts w).1.2=0) :
  Ro s (opM fs ns op val nm ts w).1.1.len (opC Φ Ψ op val nm vs s):=by
 unfold opM at he ⊢
 unfold opC
 have tru:op≠1→op≠5→op≠6→op≠7→op≠20→¬(op=9∨op=11∨op=12∨op=13)→¬(op=16∨op=17)→Ro s 0 (if op=1 then (f0X (e8U Φ val) (d3Q val),s)
   else if op=5 then Ψ nm vs s
   else if op=6 then (f0X (f1F Φ val (vs.map f0Y) s).1 d1V,(f1F Φ val (vs.map f0Y) s).2)
   else if op=7 then (⟨vs.map f0Y,⟨(f1D vs).kind,(f1D vs).bits,(vs.length:Int)⟩,0⟩,s)
   else if op=20 then f1K Φ (f0Y (vs.getD 0 zVc)) (vs.getD 1 zVc) (vs.getD 2 zVc) s
   else if op=9∨op=11∨op=12∨op=13 then (f0X (f1G Φ op (vs.map f0Y) s).1 d1V,(f1G Φ op (vs.map f0Y) s).2)
   else if op=16∨op=17 then (f0X (f1H Φ op (vs.map f0Y) (mx (vs.getD 0 zVc).typ.bits (vs.getD 1 zVc).typ.bits) s).1 d1W,(f1H Φ op (vs.map f0Y) (mx (vs.getD 0 zVc).typ.bits (vs.getD 1 zVc).typ.bits) s).2)
   else (f0X (f1I Φ op (vs.map f0Y) s).1 d1W,(f1I Φ op (vs.map f0Y) s).2)):=by
  intro a1 a5 a6 a7 a20 a9 a16
  rw[if_neg a1,if_neg a5,if_neg a6,if_neg a7,if_neg a20,if_neg a9,if_neg a16]
  exact f2M (f2T hΦ op hs h.fsts) f2H
 by_cases c1:op=1
 ·rw[if_pos c1,if_pos c1]
  have:(d3Q val).len=0:=by unfold d3Q;split <;> rfl
  show Ro s (d3Q val).len _
  rw[this]
  exact f2M (l:=(e8U Φ val,s)) ⟨hs,.refl s,.const hΦ.nn hs.b.pos hv⟩ (f2I hv)
 rw[if_neg c1] at he ⊢
 by_cases c3:op=3∨op=4
 ·rw[if_pos c3]
  exact tru c1 (by omega) (by omega) (by omega) (by omega) (by omega) (by omega)
 rw[if_neg c3,if_neg h2] at he ⊢
 by_cases c5:op=5
 ·rw[if_pos c5] at he ⊢
  rw[if_neg c1,if_pos c5]
  simp only at he ⊢
  unfold d3V at he ⊢
  cases hf:look nm fs with
  |none=>rw[hf] at he;cases he
  |some f =>
   rw[hf] at he
   simp only at he ⊢
   split at he
   ·cases he
   ·rename_i c
    split at he
    ·rename_i cf
     rw[if_neg c,if_pos cf]
     exact hΨ nm f hf vs s hs (f2L ts f.params vs h (by omega) cf)
    ·cases he
 rw[if_neg c5] at he ⊢
 by_cases c6:op=6
 ·rw[if_pos c6] at he ⊢
  simp only at he ⊢
  split at he
  ·cases he
  ·rename_i c
   rw[if_neg c,e7N he,if_neg c1,if_neg c5,if_pos c6]
   have hne:vs.map f0Y≠[]:=by
    intro e
    have e2:vs=[]:=by simpa using e
    rw[e2] at h
    have:=h.len
    rw[c6] at hB
    unfold opB at hB
    simp at hB this
    omega
   exact f2M (f2O hΦ hv hne hs h.fsts) f2G
 rw[if_neg c6] at he ⊢
 by_cases c7:op=7
 ·rw[if_pos c7] at he ⊢
  rw[if_neg c1,if_neg c5,if_neg c6,if_pos c7]
  simp only at he ⊢
  unfold d3X at he ⊢
  match ts,h,he,hl with
  |[],_,he,_=>cases he
  |a::r,h,he,hl =>
   simp only at he ⊢
   cases hg:d3W a (a::r) a with
   |none=>rw[hg] at he;cases he
   |some x =>
    have hlen:=h.len
    refine⟨hs,.refl s,⟨by simp only;omega,by simp only;omega,?_,h.fsts,(f2K h)⟩⟩
    show(((vs.map f0Y).length:Nat):Int)=_
    rw[g3X,hlen]
    unfold e7G
    rw[if_neg (by simp only[g3W];omega)]
 rw[if_neg c7] at he ⊢
 by_cases c20:op=20
 ·rw[if_pos c20] at he ⊢
  rw[if_neg c1,if_neg c5,if_neg c6,if_neg c7,if_pos c20]
  simp only at he ⊢
  have h3:ts.length=3:=by
   subst c20
   unfold opB at hB
   simp at hB
   omega
  have v1:=h.at 1 (by omega)
  have v2:=h.at 2 (by omega)
  have fin:∀ n,VcOk s.b.vars n (vs.getD 1 zVc)→VcOk s.b.vars n (vs.getD 2 zVc)→Ro s n (f1K Φ (f0Y (vs.getD 0 zVc)) (vs.getD 1 zVc) (vs.getD 2 zVc) s):=by
   intro n x1 x2
   have hll:(vs.getD 1 zVc).els.length=(vs.getD 2 zVc).els.length:=by have:=x1.len;have:=x2.len;omega
   obtain⟨b1,b2,b3,b4⟩:=f2V hΦ (f0Y (vs.getD 0 zVc)) _ _ s hll hs x1.els x2.els
   refine⟨b1,b2,⟨x1.n0,x1.n1,?_,b4,?_⟩⟩
   ·show(((f1J Φ (f0Y (vs.getD 0 zVc)) (vs.getD 1 zVc).els (vs.getD 2 zVc).els s).1.length:Nat):Int)=_
    rw[b3];exact x1.len
   ·show TyG (f1D [vs.getD 1 zVc,vs.getD 2 zVc])
    unfold f1D
    split
    ·exact x1.ty
    ·exact f2G
  unfold d3Y at he ⊢
  split at he
  ·cases he
  ·rename_i ca
   rw[if_neg ca]
   split at he
   ·rename_i cb
    rw[if_pos cb]
    rw[←cb] at v2
    exact fin _ v1 v2
   ·rename_i cb
    rw[if_neg cb]
    split at he
    ·rename_i cc
     rw[if_pos cc]
     simp only[g2R,d3R,g5L] at cc
     rw[cc.1] at v1
     rw[cc.2] at v2
     exact fin 0 v1 v2
    ·cases he
 rw[if_neg c20] at he ⊢
 by_cases c14:op=14∨op=15
 ·rw[if_pos c14] at he ⊢
  simp only at he ⊢
  rw[e7N he]
  exact tru c1 c5 c6 c7 c20 (by omega) (by omega)
 rw[if_neg c14] at he ⊢
 by_cases c16:op=16∨op=17
 ·rw[if_pos c16] at he ⊢
  rw[e7O he,if_neg c1,if_neg c5,if_neg c6,if_neg c7,if_neg c20,if_neg (by omega),if_pos c16]
  have h3:ts.length=2:=by
   unfold opB at hB
   rcases c16 with rfl|rfl <;> simp at hB <;> omega
  have v0:=(h.at 0 (by omega)).ty
  have v1:=(h.at 1 (by omega)).ty
  refine f2M (f2S hΦ op ?_ hs) f2H
  unfold mx
  split
  ·exact v1.1
  ·exact v0.1
 rw[if_neg c16] at he ⊢
 by_cases c10:op=10∨op=18∨op=19
 ·rw[if_pos c10] at he ⊢
  simp only at he ⊢
  rw[e7N he]
  exact tru c1 c5 c6 c7 c20 (by omega) (by omega)
 rw[if_neg c10] at he ⊢
 simp only at he ⊢
 rw[e7N he]
 have h9:op=9∨op=11∨op=12∨op=13:=by
  have hB':(decide (op=9∨op=11∨op=12∨op=13))=true:=by
   unfold opB at hB
   rw[if_neg c1,if_neg h2,if_neg c3,if_neg c5,if_neg c6,if_neg c7] at hB
   by_cases d9:op=9
   ·simp [d9]
   ·by_cases d11:op=11∨op=12∨op=13
    ·simp [d9,d11]
    ·rw[if_neg (by omega),if_neg c20,if_neg (by omega)] at hB
     cases hB
  simpa using hB'
 rw[if_neg c1,if_neg c5,if_neg c6,if_neg c7,if_neg c20,if_pos h9]
 exact f2M (f2Q hΦ op hs h.fsts) f2G
end Go.Ky

/- KX 86: expressions, statements, functions, inputs: what the compiler makes of what the checker lets through. No program in sight. -/
namespace Go.Ky
open Go.Pi Go.Lx
theorem f2X {Φ:Fo} {Ψ:Fc} {fs:Fs} {ns:Ns} {sc:Sx}:∀ (l:List Exp),(∀ e,e∈l→∀ w s,CsOk s→ScC s.b.vars ns sc→(exM fs ns e w).1.2=0→Ro s (exM fs ns e w).1.1.len (evC Φ Ψ sc e s))→∀ w s,CsOk s→ScC s.b.vars ns sc→(d4C fs ns l w).1.2=0 →
  CsOk (f1M Φ Ψ sc l s).2∧Cle s (f1M Φ Ψ sc l s).2∧VsC (f1M Φ Ψ sc l s).2.b.vars (d4C fs ns l w).1.1 (f1M Φ Ψ sc l s).1:=by
 intro l
 induction l with
 |nil=>intro _ w s hs _ _;rw[d4C,f1M];exact⟨hs,.refl s,True.intro⟩
 |cons a r ih =>
  intro h w s hs hsc
  rw[d6C,f1M]
  split
  ·intro h;contradiction
  ·rename_i h1
   split
   ·intro h;contradiction
   ·rename_i h2
    intro _
    have ha:=h a (by simp) w s hs hsc (by simpa using h1)
    obtain⟨b1,b2,b3⟩:=ih (fun x hx=>h x (by simp [hx])) _ _ ha.cs (hsc.mono ha.le.vars) (by simpa using h2)
    exact⟨b1,ha.le.trans b2,ha.v.mono b2.vars,b3⟩
theorem f2Y {Φ:Fo} (hΦ:Φ.Ok) {Ψ:Fc} {fs:Fs} (hΨ:FcOk fs Ψ) {ns:Ns} {sc:Sx}:∀ e,ExpOk e→szE e≤B20→exB e=true→∀ w s,CsOk s→ScC s.b.vars ns sc→(exM fs ns e w).1.2=0→Ro s (exM fs ns e w).1.1.len (evC Φ Ψ sc e s):=by
 refine Exp.ind fun e ih hx hsz hB w s hs hsc he=>?_
 obtain⟨x1,x2,x3⟩:=e7Q hx
 obtain⟨z1,z2⟩:=d6E hsz
 obtain⟨b1,b2⟩:=e7R hB
 by_cases h8:e.op=8
 ·rw[d4D,if_pos h8] at he ⊢
  rw[f1N,if_neg (by omega),if_pos h8]
  match hl:e.args with
  |[]=>rw[hl] at he;cases he
  |[a]=>rw[hl] at he;cases he
  |a::b::r =>
   rw[hl] at he
   simp only at he ⊢
   obtain⟨i1,i2,i3,i4⟩:=e7S he
   rw[i4]
   have ha:a∈e.args:=by rw[hl];simp
   have:=ih a ha (x3 a ha) (z2 a ha) (b1 a ha) w s hs hsc i1
   exact⟨this.cs,this.le,.one (f2J this.v.els _) this.v.ty⟩
 ·rw[d4D,if_neg h8] at he ⊢
  simp only at he ⊢
  have hss:=f2X (Φ:=Φ) (Ψ:=Ψ) (sc:=sc) (fs:=fs) (ns:=ns) e.args (fun a ha w s=>ih a ha (x3 a ha) (z2 a ha) (b1 a ha) w s) w s hs hsc
  by_cases c:(d4C fs ns e.args w).1.2≠0
  ·rw[if_pos c] at he;exact absurd he c
  rw[if_neg c] at he ⊢
  have hss:=hss (by simpa using c)
  have hlen:=e7P fs ns e.args w (by simpa using c)
  by_cases h2:e.op=2
  ·rw[f1N,if_pos h2]
   unfold opM at he ⊢
   rw[if_neg (by omega),if_neg (by omega),if_pos h2] at he ⊢
   simp only at he ⊢
   cases hk:look e.name ns with
   |none=>rw[hk] at he;cases he
   |some t =>
    obtain⟨v,k1,k2,_⟩:=hsc _ _ hk
    simp only
    unfold lkC
    rw[k1]
    exact⟨hs,.refl s,k2⟩
  ·rw[f1N,if_neg h2,if_neg h8]
   obtain⟨c1,c2,c3⟩:=hss
   have:=f2W hΦ hΨ (ns:=ns) (w:=(d4C fs ns e.args w).2) c1 x1 h2 h8 (by omega) (by rw[hlen];exact b2) c3 he
   exact⟨this.cs,c2.trans this.le,this.v⟩
def erV (v:Vc):Vl:=⟨v.els.map fun _=>0,false,v.num⟩
def erS (sc:Sx):Sc:=sc.map fun x=>(x.1,erV x.2)
theorem f2Z (k:Nm) (sc:Sx):look k (erS sc)=(look k sc).map erV:=by
 induction sc with
 |nil=>rfl
 |cons x r ih =>
  obtain⟨j,v⟩:=x
  show look k ((j,erV v)::erS r)=_
  rw[look,look,ih]
  split <;> rfl
theorem f3A {m n:Int} {v:Vc} (h:VcOk m n v):VOk n (erV v):=⟨h.n0,Int.le_trans h.n1 (by decide),by rw[←h.len];simp [erV],fun x hx=>by
 obtain⟨_,_,rfl⟩:=List.mem_map.1 hx
 exact Int.le_refl _⟩
theorem f3B {m:Int} {ns:Ns} {sc:Sx} (h:ScC m ns sc):ScOk ns (erS sc):=fun nm s hs=>by
 obtain⟨v,h1,h2,h3⟩:=h nm s hs
 exact⟨erV v,by rw[f2Z,h1];rfl,f3A h2,h3⟩
theorem f3C (nm:Nm) (sc:Sx):(lkV nm (erS sc)).num=(lkC nm sc).num:=by
 unfold lkV lkC
 rw[f2Z]
 cases look nm sc <;> rfl
theorem f3D (b:Exp) (sc:Sx):e7C b (erS sc)=f1L b sc:=by
 unfold e7C f1L
 rw[f3C,f3C]
theorem f3E {m:Int} {ns:Ns} {sc:Sx} (hsc:ScC m ns sc) {b:Exp} {n:Int} (hb:ExpOk b) (h0:0≤n) (h1:n≤B20) (h:d4A ns b n=(true,0)):0≤f1L b sc∧f1L b sc < n:=by
 rw[←f3D]
 exact e7T (f3B hsc) hb h0 (Int.le_trans h1 (by decide)) h
theorem ScC.sub {m:Int} {ns r:Ns} {sc:Sx} (h:ScC m (ns++r) sc):ScC m ns sc:=by
 intro nm s hs
 refine h nm s ?_
 rw[d5F,hs]
theorem ScC.new {m:Int} {ns:Ns} {sc:Sx} (h:ScC m ns sc) {nm:Nm} (hn:look nm ns=none) {s:Sy} {v:Vc} (hv:VcOk m s.typ.len v) (hl:s.loop=true→0≤s.low∧s.high≤1000000∧s.low≤v.num∧v.num < s.high):ScC m (ns++[(nm,s)]) (e6Z nm v sc):=by
 intro k t ht
 rw[d5F] at ht
 rw[e7H]
 by_cases hk:k=nm
 ·subst hk
  rw[hn] at ht
  simp only[e7U] at ht
  rw[if_pos rfl]
  have:t=s:=by simpa using ht.symm
  subst this
  exact⟨v,rfl,hv,hl⟩
 ·rw[if_neg hk]
  cases hb:look k ns with
  |some x =>
   rw[hb] at ht
   have:x=t:=by simpa using ht
   subst this
   exact h k x hb
  |none =>
   rw[hb] at ht
   simp only[e7V hk] at ht
   cases ht
theorem f3F {Φ:Fo} {x:Li} {t:Ty} {s:Cst} (hs:CsOk s) (ht:t.kind=3→0≤t.bits∧t.bits≤62):CsOk (f1O Φ x t s)∧Cle s (f1O Φ x t s):=by
 unfold f1O
 split
 ·exact f2E hs (e9X x s.b) (Int.le_refl _) (by decide)
 split
 ·rename_i h
  obtain⟨h1,h2⟩:=ht h
  exact f2E (g:=fun b=>(e9J Φ x t.bits b).2) hs (e9Z Φ x h1 h2 s.b) (Int.le_refl _) (by omega)
 ·exact⟨hs,.refl s⟩
structure So (s:Cst) (ns:Ns) (q:Sx×Cst):Prop where
 cs:CsOk q.2
 le:Cle s q.2
 sc:q.2.full=true∨ScC q.2.b.vars ns q.1
theorem f3G {f:Int→Sx→Cst→Sx×Cst} {ns:Ns} {lo hi:Int} (h:∀ n sc s,lo≤n→n < hi→s.full=false→CsOk s→ScC s.b.vars ns sc→So s ns (f n sc s)):∀ (k:Nat) (n:Int) (sc:Sx) (s:Cst),lo≤n→n+k≤hi→CsOk s→(s.full=true∨ScC s.b.vars ns sc)→So s ns (itC f k n sc s):=by
 intro k
 induction k with
 |zero=>intro n sc s _ _ hs hp;rw[itC];exact⟨hs,.refl s,hp⟩
 |succ k ih =>
  intro n sc s h1 h2 hs hp
  rw[itC]
  cases hb:s.full with
  |true=>rw[if_pos rfl];exact⟨hs,.refl s,.inl hb⟩
  |false =>
   rw[if_neg (show ¬(false=true) by decide)]
   have hf:=h n sc s h1 (by omega) hb hs (hp.resolve_left (by rw[hb];simp))
   have:=ih (n+1) _ _ (by omega) (by omega) hf.cs hf.sc
   exact⟨this.cs,hf.le.trans this.le,this.sc⟩
theorem f3H {Φ:Fo} {Ψ:Fc} {fs:Fs}:∀ (l:List St),(∀ x,x∈l→∀ ns sc w s,s.full=false→CsOk s→ScC s.b.vars ns sc→(stM fs x ns w).1=0→So s (stM fs x ns w).2.1 (stC Φ Ψ x sc s)) →
  ∀ ns sc w s,CsOk s→(s.full=true∨ScC s.b.vars ns sc)→(d4G fs l ns w).1=0→So s (d4G fs l ns w).2.1 (f1Q Φ Ψ l sc s):=by
 intro l
 induction l with
 |nil=>intro _ ns sc w s hs h _;rw[d4G,f1Q];exact⟨hs,.refl s,h⟩
 |cons x r ih =>
  intro h ns sc w s hs hsc
  cases hb:s.full with
  |true =>
   rw[f1Y Φ Ψ _ sc hb]
   exact fun _=>⟨hs,.refl s,.inl hb⟩
  |false =>
   rw[d6K,f1Z Φ Ψ x r sc hb]
   by_cases h1:(stM fs x ns w).1≠0
   ·rw[if_pos h1];intro h;exact absurd h h1
   ·rw[if_neg h1]
    intro h2
    have h3:=h x (by simp) ns sc w s hb hs (hsc.resolve_left (by rw[hb];simp)) (by simpa using h1)
    have:=ih (fun y hy=>h y (by simp [hy])) _ _ _ _ h3.cs h3.sc h2
    exact⟨this.cs,h3.le.trans this.le,this.sc⟩
theorem f3I {Φ:Fo} {typed:Bool} {ty:Ty} {s:Cst} {n:Int} {q:Vc×Cst} (h:Ro s n q) (ht:typed=true→n=ty.len∧tyB ty=true):Ro s n (f1P Φ typed ty q):=by
 unfold f1P
 cases typed with
 |false=>rw[if_neg (by simp)];exact h
 |true =>
  rw[if_pos rfl]
  obtain⟨h1,h2⟩:=ht rfl
  by_cases c:ty.len=0
  ·rw[if_pos c]
   obtain⟨a,b⟩:=f3F (Φ:=Φ) (x:=f0Y q.1) (t:=ty) h.cs (e8N h2)
   have hv:=h.v.mono b.vars
   exact⟨a,h.le.trans b,⟨hv.n0,hv.n1,hv.len,hv.els,f2F h2⟩⟩
  ·rw[if_neg c]
   exact⟨h.cs,h.le,⟨h.v.n0,h.v.n1,h.v.len,h.v.els,f2F h2⟩⟩
theorem f3J {Φ:Fo} (hΦ:Φ.Ok) {Ψ:Fc} {fs:Fs} {x:St} (h3:x.kind=3) (hB:stB x=true) {ns:Ns} {w:Int} (he:(stM fs x ns w).1=0)
  (hbody:∀ ns sc w s,CsOk s→(s.full=true∨ScC s.b.vars ns sc)→(d4G fs x.body ns w).1=0→So s (d4G fs x.body ns w).2.1 (f1Q Φ Ψ x.body sc s)) {sc:Sx} {s:Cst} (hs:CsOk s) {n:Int} (h:ScC s.b.vars ns sc) (n1:x.lo≤n) (n2:n < x.hi) :
  ScC s.b.vars (ns++[(x.name,⟨d1V,true,x.lo,x.hi⟩)]) (e6Z x.name ⟨[e8U Φ n],d1V,n⟩ sc)∧So s ns (f1Q Φ Ψ x.body (e6Z x.name ⟨[e8U Φ n],d1V,n⟩ sc) s):=by
 obtain⟨hnew,l1,l2,l3,hb⟩:=e8O h3 hB he
 have hp1:ScC s.b.vars (ns++[(x.name,⟨d1V,true,x.lo,x.hi⟩)]) (e6Z x.name ⟨[e8U Φ n],d1V,n⟩ sc) :=
  h.new hnew (s:=⟨d1V,true,x.lo,x.hi⟩) (v:=⟨[e8U Φ n],d1V,n⟩) ⟨Int.le_refl _,(by decide:(0:Int)≤B20),rfl,fun y hy=>by
   have:y=e8U Φ n:=by simpa using hy
   rw[this];exact .const hΦ.nn hs.b.pos (by omega),f2G⟩ (fun _=>⟨l1,l3,n1,n2⟩)
 refine⟨hp1,?_⟩
 have h:=hbody _ _ w s hs (.inr hp1) hb
 refine⟨h.cs,h.le,?_⟩
 rcases h.sc with h|h
 ·exact .inl h
 ·obtain⟨r,e,_⟩:=d6L fs x.body _ w hb
  rw[e,g3A] at h
  exact .inr h.sub
theorem f3K {Φ:Fo} (hΦ:Φ.Ok) {Ψ:Fc} {fs:Fs} (hΨ:FcOk fs Ψ):∀ x,StOk x→szS x≤B20→stB x=true→∀ ns sc w s,s.full=false→CsOk s→ScC s.b.vars ns sc→(stM fs x ns w).1=0→So s (stM fs x ns w).2.1 (stC Φ Ψ x sc s):=by
 refine St.ind fun x ih hx hsz hB ns sc w s hfu hs hsc he=>?_
 by_cases h3:x.kind=3
 ·have hb:=d6R hB h3
  have hxb:=d6T hx
  have hbody:=f3H (Φ:=Φ) (Ψ:=Ψ) (fs:=fs) x.body (fun b hb'=>ih b hb' (hxb b hb') ((d6P hsz).2 b hb') (hb b hb'))
  obtain⟨hnew,l1,l2,l3,hbz⟩:=e8O h3 hB he
  have hns:(stM fs x ns w).2.1=ns:=by
   rw[d6N h3,if_neg (by omega)] at he ⊢
   by_cases c1:(d4E x.name ⟨d1V,true,x.lo,x.hi⟩ ns w).1≠0
   ·rw[if_pos c1] at he;exact absurd he c1
   rw[if_neg c1] at he ⊢
   by_cases c2:(d4G fs x.body (d4E x.name ⟨d1V,true,x.lo,x.hi⟩ ns w).2.1 (d4E x.name ⟨d1V,true,x.lo,x.hi⟩ ns w).2.2).1≠0
   ·rw[if_pos c2] at he;exact absurd he c2
   rw[if_neg c2]
  rw[hns,f1R,if_neg (by omega),if_neg (by omega),if_pos h3]
  by_cases hid:idS x=true
  ·rw[if_pos hid];exact⟨hs,.refl s,.inr hsc⟩
  rw[if_neg hid]
  exact f3G (ns:=ns) (lo:=x.lo) (hi:=x.hi) (fun n sc1 s1 n1 n2 f1 hs1 hp=>(f3J hΦ h3 hB he hbody hs1 hp n1 n2).2) _ _ _ _ (Int.le_refl _) (by omega) hs (.inr hsc)
 ·have hbx:=d6Q hB h3
  have hxx:=d6S hx
  have hE:=e8L h3 he
  have hv:=f2Y hΦ hΨ (sc:=sc) x.ex hxx (g4V (d2T x) hsz) hbx w s hs hsc hE
  rw[d6O h3,if_neg (by simpa using hE)] at he ⊢
  by_cases h2:x.kind=2
  ·rw[if_pos h2]
   rw[f1R,if_neg (show ¬x.kind=1 by omega),if_pos h2]
   obtain⟨a,b⟩:=f2E (n:=1) hv.cs (e9W Φ (f0Y (evC Φ Ψ sc x.ex s).1) (e8U Φ 1) (evC Φ Ψ sc x.ex s).2.b) (Int.le_refl _) (by decide)
   exact⟨a,hv.le.trans b,.inr (hsc.mono (hv.le.trans b).vars)⟩
  have he0:=he
  rw[if_neg h2] at he ⊢
  have h1:=e7Z hB h3 h2
  rw[f1R,if_pos h1]
  by_cases ht:x.typed=true
  ·have hst:=e8M (fs:=fs) (ns:=ns) (w:=w) h3 h2 ht hB (by rw[d6O h3,if_neg (by simpa using hE)];exact he0)
   have hl:=f3I (Φ:=Φ) (typed:=x.typed) (ty:=x.ty) hv (fun _=>hst)
   rw[if_pos ht] at he ⊢
   split at he
   ·cases he
   ·rename_i c
    rw[if_neg c]
    have hnew:=e7W he
    rw[d6I he]
    have hl2:=hl.v
    rw[hst.1] at hl2
    exact⟨hl.cs,hl.le,.inr ((hsc.mono hl.le.vars).new hnew (s:=⟨x.ty,false,0,0⟩) hl2 (fun h=>by cases h))⟩
  ·have hl:=f3I (Φ:=Φ) (typed:=x.typed) (ty:=x.ty) hv (fun h=>absurd h ht)
   rw[if_neg ht] at he ⊢
   have hnew:=e7W he
   rw[d6I he]
   exact⟨hl.cs,hl.le,.inr ((hsc.mono hl.le.vars).new hnew (s:=⟨(exM fs ns x.ex w).1.1,false,0,0⟩) hl.v (fun h=>by cases h))⟩
theorem f3L {m:Int}:∀ (ps:List Pa) (vs:List Vc) (ns:Ns) (sc:Sx) (w:Int),(∀ p,p∈ps→tyB p.ty=true)→PsC m ps vs→ScC m ns sc→(d4J ps ns w).1=0→ScC m (d4J ps ns w).2.1 (f1S ps vs sc)
 |[],[],ns,sc,w,_,_,h,_=>by rw[d4J,f1S];exact h;all_goals simp
 |p::ps,v::vs,ns,sc,w,hty,hp,h,he=>by
  rw[d6U] at he ⊢
  split at he
  ·contradiction
  ·rename_i c
   rw[if_neg c]
   have c':(d4E p.name ⟨p.ty,false,0,0⟩ ns w).1=0:=by simpa using c
   rw[f1S]
   have hn:=e7W c'
   rw[d6I c'] at he ⊢
   exact f3L ps vs _ _ w (fun q hq=>hty q (by simp [hq])) hp.2 (h.new hn (s:=⟨p.ty,false,0,0⟩) (v:=⟨v.els,p.ty,0⟩) ⟨hp.1.n0,hp.1.n1,hp.1.len,hp.1.els,f2F (hty p (by simp))⟩ (fun h=>by cases h)) he
 |[],v::vs,_,_,_,_,h,_,_=>h.elim
 |p::ps,[],_,_,_,_,h,_,_=>h.elim
theorem ScC.nil (m:Int):ScC m [] []:=fun nm s h=>by cases h
theorem f3M {f:Fu} (h:fuB f=true):∀ p,p∈f.params→tyB p.ty=true:=by
 unfold fuB at h
 simp only[g2R,g2Y] at h
 intro p hp
 have:=h.1.1.1.2 p hp
 unfold paB at this
 simp only[g2R] at this
 exact this.2
theorem f3N {Φ:Fo} (hΦ:Φ.Ok) {Ψ:Fc} {fs:Fs} (hΨ:FcOk fs Ψ) {f:Fu} (hx:FuOk f) (hB:fuB f=true) (hbs:d2K f.body≤B20) (hrs:szE f.ret≤B20) {w:Int} (h:(d4K fs f w).1=0) {vs:List Vc} {s:Cst} (hs:CsOk s) (hp:PsC s.b.vars f.params vs):Ro s f.res.len (f1T Φ Ψ f vs s):=by
 obtain⟨b1,b2,b3⟩:=e8B hB
 obtain⟨h1,h2,h3,h4,h5,h6⟩:=e8A h
 obtain⟨r1,r2⟩:=e7X b1
 have hsc:=f3L f.params vs [] [] w (f3M hB) hp (.nil _) h3
 have hst:=f3H (Φ:=Φ) (Ψ:=Ψ) (fs:=fs) f.body (fun x hx'=>f3K hΦ hΨ x (hx.bo x hx') (g4V (d2Q hx') hbs) (b2 x hx')) _ _ _ s hs (.inr hsc) h4
 unfold f1T
 simp only
 cases c:(f1Q Φ Ψ f.body (f1S f.params vs []) s).2.full with
 |true =>
  rw[if_pos rfl]
  have hl:0≤e7G f.res.len:=by unfold e7G;split <;> omega
  refine⟨hst.cs,hst.le,⟨r1,by show f.res.len≤1100000;omega,?_,fun x hx=>by rw[List.eq_of_mem_replicate hx];exact .nil _,f2F b1⟩⟩
  show(((List.replicate _ e8S).length:Nat):Int)=_
  rw[List.length_replicate]
  omega
 |false =>
  rw[if_neg (by simp)]
  have hsc2:=hst.sc.resolve_left (by rw[c];simp)
  have:=f2Y hΦ hΨ f.ret hx.ret hrs b3 _ _ hst.cs hsc2 h5
  rw[e7Y h6] at this
  exact⟨this.cs,hst.le.trans this.le,⟨this.v.n0,this.v.n1,this.v.len,this.v.els,f2F b1⟩⟩
theorem f3O {Φ:Fo} (hΦ:Φ.Ok) {Ψ:Fc} {fs:Fs} (hΨ:FcOk fs Ψ) {f:Fu} (hx:FuOk f) (hB:fuB f=true) (hbs:d2K f.body≤B20) (hrs:szE f.ret≤B20) {w:Int} (h:(d4K fs f w).1=0):FcOk (fs++[(f.name,f)]) (fcS Φ f Ψ):=by
 obtain⟨h1,h2,h3⟩:=e8A h
 intro nm g hg vs s hs hp
 rw[d5F] at hg
 unfold fcS
 by_cases hk:nm=f.name
 ·subst hk
  rw[h1] at hg
  simp only[e7U] at hg
  rw[if_pos rfl]
  have:f=g:=by simpa using hg
  subst this
  exact f3N hΦ hΨ hx hB hbs hrs h hs hp
 ·rw[if_neg hk]
  cases hb:look nm fs with
  |some y =>
   rw[hb] at hg
   have:y=g:=by simpa using hg
   subst this
   exact hΨ nm y hb vs s hs hp
  |none =>
   rw[hb] at hg
   simp only[e7V hk] at hg
   cases hg
theorem f3P {Φ:Fo} (hΦ:Φ.Ok):∀ (l:List Fu) (Ψ:Fc) (fs:Fs) (w:Int),FcOk fs Ψ→(∀ f,f∈l→FuOk f∧fuB f=true∧d2K f.body≤B20∧szE f.ret≤B20)→(d4L l fs w).1=0→FcOk (d4L l fs w).2.1 (f1U Φ l Ψ):=by
 intro l
 induction l with
 |nil=>intro Ψ fs w h _ _;rw[d4L,f1U];exact h
 |cons f r ih =>
  intro Ψ fs w h hl he
  rw[d7A] at he ⊢
  by_cases c:(d4K fs f w).1≠0
  ·rw[if_pos c] at he;exact absurd he c
  rw[if_neg c] at he ⊢
  have c':(d4K fs f w).1=0:=by simpa using c
  have h2:=f3O hΦ h (hl f (by simp)).1 (hl f (by simp)).2.1 (hl f (by simp)).2.2.1 (hl f (by simp)).2.2.2 c'
  rw[←(e8A c').2.1] at h2
  rw[f1U]
  exact ih _ _ _ h2 (fun x hx=>hl x (by simp [hx])) he
theorem FcOk.nil:FcOk [] fc0:=fun nm f h=>by cases h
theorem f3Q {Φ:Fo} (hΦ:Φ.Ok) {t:Ty} (ht:tyB t=true):∀ (k:Nat) (i:Int) (ls:List Li) (s:Cst),CsOk s→0≤i→i+k≤s.b.pub+s.b.sec→(∀ x,x∈ls→LiOk s.b.vars x)→CsOk (f1V Φ t k i ls s).2∧Cle s (f1V Φ t k i ls s).2∧(f1V Φ t k i ls s).1.length=ls.length+k∧∀ x,x∈(f1V Φ t k i ls s).1→LiOk (f1V Φ t k i ls s).2.b.vars x
 |0,i,ls,s,hs,_,_,hl=>by rw[f1V];exact⟨hs,.refl s,rfl,hl⟩
 |k+1,i,ls,s,hs,h0,h1,hl=>by
  rw[f1V]
  obtain⟨a,b⟩:=f3F (Φ:=Φ) (x:=e8V Φ (1+i)) (t:=t) hs (e8N ht)
  have hvar:LiOk s.b.vars (e8V Φ (1+i)):=.var hΦ.nn (by omega) (by have:=hs.b.vars;omega)
  obtain⟨c1,c2,c3,c4⟩:=f3Q hΦ ht k (i+1) (ls++[e8V Φ (1+i)]) _ a (by omega) (by rw[b.pub,b.sec];omega) (fun x hx=>by
   rcases g4F.1 hx with hx|hx
   ·exact(hl x hx).mono b.vars
   ·rw[g4M.1 hx];exact hvar.mono b.vars)
  exact⟨c1,b.trans c2,by rw[c3,g3V,List.length_singleton];omega,c4⟩
theorem f3R {Φ:Fo} (hΦ:Φ.Ok):∀ (l:List De) (a c:Int) (ns:Ns) (sc:Sx) (s:Cst) (w:Int),(∀ d,d∈l→tyB d.ty=true)→CsOk s→ScC s.b.vars ns sc→(d4M l ns w).1=0→0≤a→0≤c→a+(e8C l true:Int)≤s.b.pub+s.b.sec→c+(e8C l false:Int)≤s.b.pub+s.b.sec →
  CsOk (inC Φ l a c sc s).2∧Cle s (inC Φ l a c sc s).2∧ScC (inC Φ l a c sc s).2.b.vars (d4M l ns w).2.1 (inC Φ l a c sc s).1:=by
 intro l
 induction l with
 |nil=>intro a c ns sc s w _ hs h _ _ _ _ _;rw[inC,d4M];exact⟨hs,.refl s,h⟩
 |cons d r ih =>
  intro a c ns sc s w hl hs h he ha hc h1 h2
  have hdt:=hl d (by simp)
  obtain⟨t1,t2⟩:=e7X hdt
  have hm2:1≤e7G d.ty.len∧e7G d.ty.len≤64:=by unfold e7G;split <;> omega
  rw[d6W] at he ⊢
  by_cases e:(d4E d.name ⟨d.ty,false,0,0⟩ ns w).1≠0
  ·rw[if_pos e] at he;exact absurd he e
  rw[if_neg e] at he ⊢
  have e':(d4E d.name ⟨d.ty,false,0,0⟩ ns w).1=0:=by simpa using e
  have hn:=e7W e'
  rw[d6I e'] at he ⊢
  rw[inC]
  simp only at he ⊢
  rw[e8C] at h1 h2
  have hst:0≤(if d.pub then a else c)∧(if d.pub then a else c)+((e7G d.ty.len).toNat:Int)≤s.b.pub+s.b.sec:=by
   cases hp:d.pub with
   |true=>rw[hp] at h1;simp only[if_true] at h1 ⊢;exact⟨ha,by omega⟩
   |false=>rw[hp] at h2;simp only[if_true,g2S,if_false] at h2 ⊢;exact⟨hc,by omega⟩
  obtain⟨c1,c2,c3,c4⟩:=f3Q hΦ hdt (e7G d.ty.len).toNat (if d.pub then a else c) [] s hs hst.1 hst.2 (fun x hx=>by cases hx)
  have hnew:=(h.mono c2.vars).new hn (s:=⟨d.ty,false,0,0⟩) (v:=⟨(f1V Φ d.ty (e7G d.ty.len).toNat (if d.pub then a else c) [] s).1,d.ty,0⟩) ⟨t1,by show d.ty.len≤1100000;omega,by
   show(((f1V Φ d.ty (e7G d.ty.len).toNat (if d.pub then a else c) [] s).1.length:Nat):Int)=e7G d.ty.len
   rw[c3];simp;omega,c4,f2F hdt⟩ (fun h=>by cases h)
  obtain⟨g1,g2,g3⟩:=ih (if d.pub then a+((e7G d.ty.len).toNat:Int) else a) (if d.pub then c else c+((e7G d.ty.len).toNat:Int)) _ _ _ (d4F d.ty w) (fun x hx=>hl x (by simp [hx])) c1 hnew he (by split <;> omega) (by split <;> omega) (by rw[c2.pub,c2.sec];cases hp:d.pub <;> rw[hp] at h1 <;> simp at h1 ⊢ <;> omega) (by rw[c2.pub,c2.sec];cases hp:d.pub <;> rw[hp] at h2 <;> simp at h2 ⊢ <;> omega)
  exact⟨g1,c2.trans g2,g3⟩
end Go.Ky

/- KX 87: a circuit's builder in the store: its cells, the buffers of its rows and hints; what a gadget a2N as it was. No program in sight. -/
namespace Go.Ky
open Go.Pi Go.Lx
def Mv (h h':List Nat) (sg sg':Sg):Prop:=sg.length≤sg'.length∧(∀ i,i < sg.length→i ∉ h→sg'[i]?=sg[i]?)∧∀ i,i∈h'→i∈h∨sg.length≤i
theorem Mv.refl (h:List Nat) (sg:Sg):Mv h h sg sg:=⟨g4U _,fun _ _ _=>rfl,fun _ h=>.inl h⟩
theorem Mv.trans {h h' h'':List Nat} {x y z:Sg} (a:Mv h h' x y) (b:Mv h' h'' y z):Mv h h'' x z:=by
 refine⟨g4V a.1 b.1,fun i hi hn=>?_,fun i hi=>?_⟩
 ·rw[b.2.1 i (g4W hi a.1) (fun e=>by
   rcases a.2.2 i e with e|e
   ·exact hn e
   ·omega)]
  exact a.2.1 i hi hn
 ·rcases b.2.2 i hi with e|e
  ·exact a.2.2 i e
  ·exact .inr (g4V a.1 e)
theorem Mv.app (h:List Nat) (sg r:Sg):Mv h h sg (sg++r):=⟨by simp,fun i hi _=>g3I hi,fun _ h=>.inl h⟩
theorem Mv.grow {h:List Nat} {sg sg':Sg} (hg:Grow sg sg'):Mv h h sg sg':=by
 obtain⟨r,rfl⟩:=hg
 exact .app h sg r
theorem Mv.get {h h':List Nat} {x y:Sg} (a:Mv h h' x y) {i:Nat} {v:Bool×List PV} (hi:x[i]?=some v) (hn:i ∉ h):y[i]?=some v:=by
 rw[a.2.1 i (d4Y hi) hn];exact hi
theorem Mv.cold {h h':List Nat} {x y:Sg} (a:Mv h h' x y) {i:Nat} (hi:i < x.length) (hn:i ∉ h):i ∉ h':=fun e=>by
 rcases a.2.2 i e with e|e
 ·exact hn e
 ·omega
theorem Mv.cons {h h':List Nat} {x y:Sg} (a:Mv h h' x y) (c:Nat):Mv (c::h) (c::h') x y:=by
 refine⟨a.1,fun i hi hn=>a.2.1 i hi fun e=>hn (by simp [e]),fun i hi=>?_⟩
 rcases g4G.1 hi with e|e
 ·exact .inl (by simp [e])
 ·rcases a.2.2 i e with e|e
  ·exact .inl (by simp [e])
  ·exact .inr e
theorem Mv.set {h h':List Nat} {x y:Sg} (a:Mv h h' x y) {i:Nat} (hi:i∈h∨x.length≤i) (v:Bool×List PV):Mv h h' x (y.set i v):=by
 refine⟨by simpa using a.1,fun j hj hn=>?_,a.2.2⟩
 rw[g3R (fun e=>by
  subst e
  rcases hi with hi|hi
  ·exact hn hi
  ·omega)]
 exact a.2.1 j hj hn
theorem Mv.app2 {h h':List Nat} {x y:Sg} (a:Mv h h' x y) (r:Sg):Mv h h' x (y++r):=a.trans (.app _ _ _)
theorem Mv.sub {h k h':List Nat} {x y:Sg} (a:Mv h h' x y) (hk:∀ i,i∈h→i∈k):Mv k h' x y :=
 ⟨a.1,fun i hi hn=>a.2.1 i hi fun e=>hn (hk i e),fun i hi=>(a.2.2 i hi).imp (hk i) id⟩
theorem Mv.fresh {h h' k:List Nat} {x y:Sg} (a:Mv h h' x y) (hk:∀ i,i∈k→i∈h∨x.length≤i):Mv h k x y:=⟨a.1,a.2.1,hk⟩
def tTs (l:List (Int×Int)):List (List T):=l.map fun t=>[.int .i64 t.1,.int .u64 t.2]
abbrev tLi (l:Li):T:=.sl l.nl (tTs l.ts)
def tLs (l:List Li):List (List T):=l.map fun x=>[tLi x]
abbrev cRw (r:Rw):List PV:=[.t (tLi r.a),.t (tLi r.b),.t (tLi r.c)]
abbrev cHt (h:Ht):List PV:=[.t (.int .i64 h.kind),.t (tLi h.a),.t (tLi h.b),.t (.int .i64 h.bit)]
abbrev tHt (h:Ht):List T:=[.int .i64 h.kind,tLi h.a,tLi h.b,.int .i64 h.bit]
abbrev tRw (r:Rw):List T:=[tLi r.a,tLi r.b,tLi r.c]
theorem f3S (l:List (Int×Int)):(tTs l).length=l.length:=by unfold tTs;rw[g3X]
theorem f3T (l:List (Int×Int)) (i:Nat):(tTs l)[i]?=l[i]?.map fun t=>[.int .i64 t.1,.int .u64 t.2]:=by unfold tTs;rw[g3O]
theorem f3U (l:List Li):(tLs l).length=l.length:=by unfold tLs;rw[g3X]
theorem f3V (l:List Li) (i:Nat):(tLs l)[i]?=l[i]?.map fun x=>[tLi x]:=by unfold tLs;rw[g3O]
theorem cP_i (k:IntKind) (n:Int):cellsP (.t (.int k n))=[.t (.int k n)]:=rfl
theorem cP_s (nl:Bool) (es:List (List T)):cellsP (.t (.sl nl es))=[.t (.sl nl es)]:=rfl
theorem cP_b (b:Bool):cellsP (.t (.bool b))=[.t (.bool b)]:=rfl
theorem cP_a (cs:List T):cellsP (.t (.agg cs))=cs.map PV.t:=rfl
theorem cP_A (cs:List PV):cellsP (.agg cs)=cs:=rfl
theorem cP_o (k z:Nat) (es:List (List T)):cellsP (.own k z es)=[.own k z es]:=rfl
theorem oP_i (k:IntKind) (n:Int):Pi.one (.t (.int k n))=true:=rfl
theorem oP_s (nl:Bool) (es:List (List T)):Pi.one (.t (.sl nl es))=true:=rfl
theorem oP_b (b:Bool):Pi.one (.t (.bool b))=true:=rfl
theorem oP_o (k z:Nat) (es:List (List T)):Pi.one (.own k z es)=true:=rfl
theorem wC:type_of% (And.intro cP_i (And.intro cP_s (And.intro cP_b (And.intro cP_a (And.intro cP_A (And.intro cP_o (And.intro oP_i (And.intro oP_s (And.intro oP_b (And.intro oP_o (And.intro setRange.eq_1 setRange.eq_2))))))))))):=And.intro cP_i (And.intro cP_s (And.intro cP_b (And.intro cP_a (And.intro cP_A (And.intro cP_o (And.intro oP_i (And.intro oP_s (And.intro oP_b (And.intro oP_o (And.intro setRange.eq_1 setRange.eq_2))))))))))
def Bf (sg:Sg) (r:Nat) (v:PV) (id sz n:Nat) (cs:List PV):Prop:=(n=0∧v=.t (.sl true [])∧id=r∧cs=[])∨(0 < n∧v=.bf id n sz∧sg[id]?=some (false,cs)∧id≠r∧cs.length=n * sz)
theorem Bf.get {sg sg':Sg} {r:Nat} {v:PV} {id sz n:Nat} {cs:List PV} (h:Bf sg r v id sz n cs) (hg:id≠r→id < sg.length→sg'[id]?=sg[id]?):Bf sg' r v id sz n cs:=by
 rcases h with h|⟨h1,h2,h3,h4,h5⟩
 ·exact .inl h
 ·exact .inr ⟨h1,h2,by rw[hg h4 (d4Y h3)];exact h3,h4,h5⟩
theorem Bf.lt {sg:Sg} {r:Nat} {v:PV} {id sz n:Nat} {cs:List PV} (h:Bf sg r v id sz n cs) (hr:r < sg.length):id < sg.length:=by
 rcases h with⟨_,_,h,_⟩|⟨_,_,h,_⟩
 ·rw[h];exact hr
 ·exact d4Y h
theorem Bf.len {sg:Sg} {r:Nat} {v:PV} {id sz n:Nat} {cs:List PV} (h:Bf sg r v id sz n cs):lenP false v=some n:=by
 rcases h with⟨rfl,rfl,_⟩|⟨_,rfl,_⟩ <;> rfl
theorem a7H {sz:Nat} {l:List T} (h:l.length=sz):a0C sz 1 l=[l]:=by
 unfold a0C
 rw[List.take_of_length_le (by omega)]
 rfl
theorem Bf.apb {sg:Sg} {r:Nat} {v:PV} {id sz n:Nat} {cs:List PV} (h:Bf sg r v id sz n cs) (hr:r < sg.length) {e:List T} (he:e.length=sz) (hsz:0 < sz) {bytes:Nat} (hroom:a0N (n+1) bytes=true) :
  ∃ v' sg',a0V sg sz bytes v (.lit [e])=some (v',sg')∧Bf sg' r v' sg.length sz (n+1) (cs++e.map PV.t)∧sg.length≤sg'.length∧Pi.one v'=true∧cellsP v'=[v']∧(∀ i,i < sg.length→i≠id∨id=r→sg'[i]?=sg[i]?):=by
 rcases h with⟨rfl,rfl,rfl,rfl⟩|⟨h1,rfl,h3,h4,h5⟩
 ·refine⟨.bf sg.length 1 sz,sg++[(false,e.map PV.t)],?_,?_,by simp,rfl,rfl,fun i hi _=>g3I hi⟩
  ·have ha:[e].all (fun x=>x.length == sz)=true:=by simp [he]
   simp only[a0V,a0L,elems,ha,true_and,if_pos hsz]
   have:a0N ([e]:List (List T)).length bytes=true:=hroom
   rw[if_pos this]
   simp
  ·right
   refine⟨by omega,by simp,?_,by omega,by simp [he]⟩
   simp
 ·refine⟨.bf sg.length (n+1) sz,sg.set id (false,[])++[(false,cs++e.map PV.t)],?_,?_,by simp,rfl,rfl,fun i hi hn=>?_⟩
  ·have ha:[e].all (fun x=>x.length == sz)=true:=by simp [he]
   have hpos:0 < cs.length:=by rw[h5];exact Nat.mul_pos h1 hsz
   simp only[a0V,a0L,elems,ha,true_and,if_pos hsz,h3]
   have hl:([e]:List (List T)).length=1:=rfl
   rw[hl,if_pos ⟨hpos,by omega,hroom⟩,List.take_of_length_le (by omega)]
   simp
  ·right
   refine⟨by omega,rfl,?_,by omega,by rw[g3V,h5,g3X,he,g4Q,Nat.one_mul]⟩
   rw[g3J (by simp)]
   simp
  ·rw[g3I (by simpa using hi),g3R (fun e=>by
    rcases hn with hn|hn
    ·exact hn e.symm
    ·exact h4 hn)]
def LiC (l:Li):Prop:=l.ts.length≤1000000∧(l.nl=true→l.ts=[])
structure BdC (b:Bd):Prop where
 r:∀ x,x∈b.rows→LiC x.a∧LiC x.b∧LiC x.c
 h:∀ x,x∈b.hints→LiC x.a∧LiC x.b
structure BS (sg:Sg) (r ri hi:Nat) (p:Int) (b:Bd):Prop where
 ex:∃ rv hv,sg[r]?=some (false,[.t (.int .u64 p),.t (.int .u64 p),.t (.int .i64 b.pub),.t (.int .i64 b.vars),rv,.t (.int .i64 b.sec),hv])∧Bf sg r rv ri 3 b.rows.length (b.rows.flatMap cRw)∧Bf sg r hv hi 4 b.hints.length (b.hints.flatMap cHt)
 ne:ri=hi→ri=r
 cl:BdC b
theorem BS.lt {sg:Sg} {r ri hi:Nat} {p:Int} {b:Bd} (h:BS sg r ri hi p b):r < sg.length∧ri < sg.length∧hi < sg.length:=by
 obtain⟨rv,hv,h1,h2,h3⟩:=h.ex
 exact⟨d4Y h1,h2.lt (d4Y h1),h3.lt (d4Y h1)⟩
theorem BS.get {sg sg':Sg} {r ri hi:Nat} {p:Int} {b:Bd} (h:BS sg r ri hi p b) (hg:∀ i,i∈[r,ri,hi]→sg'[i]?=sg[i]?):BS sg' r ri hi p b:=by
 obtain⟨rv,hv,h1,h2,h3⟩:=h.ex
 exact⟨⟨rv,hv,by rw[hg r (by simp)];exact h1,h2.get fun _ _=>hg ri (by simp),h3.get fun _ _=>hg hi (by simp)⟩,h.ne,h.cl⟩
theorem BS.app {sg:Sg} {r ri hi:Nat} {p:Int} {b:Bd} (h:BS sg r ri hi p b) (t:Sg):BS (sg++t) r ri hi p b:=by
 obtain⟨l1,l2,l3⟩:=h.lt
 refine h.get fun i hi=>?_
 simp only[g4G,g4N,or_false] at hi
 exact g3I (by rcases hi with rfl|rfl|rfl <;> assumption)
theorem BS.grow {sg sg':Sg} {r ri hi:Nat} {p:Int} {b:Bd} (h:BS sg r ri hi p b) (hg:Grow sg sg'):BS sg' r ri hi p b:=by
 obtain⟨t,rfl⟩:=hg
 exact h.app t
theorem BS.mv {sg sg':Sg} {r ri hi:Nat} {p:Int} {b:Bd} {k k':List Nat} (h:BS sg r ri hi p b) (hm:Mv k k' sg sg') (hr:r ∉ k) (hri:ri ∉ k) (hhi:hi ∉ k):BS sg' r ri hi p b:=by
 obtain⟨l1,l2,l3⟩:=h.lt
 refine h.get fun i hi=>?_
 simp only[g4G,g4N,or_false] at hi
 rcases hi with rfl|rfl|rfl
 ·exact hm.2.1 _ l1 hr
 ·exact hm.2.1 _ l2 hri
 ·exact hm.2.1 _ l3 hhi
theorem BS.set {sg:Sg} {r ri hi:Nat} {p:Int} {b:Bd} (h:BS sg r ri hi p b) {i:Nat} (hn:i ∉ [r,ri,hi]) (x:Bool×List PV):BS (sg.set i x) r ri hi p b :=
 h.get fun j hj=>g3R (fun e=>hn (by rw[e];exact hj))
def Gd (sg:Sg) (ow:Ow) (r ri hi:Nat) (p:Int) (b':Bd) (sg':Sg) (ow':Ow):Prop:=ow <+: ow'∧∃ ri' hi',BS sg' r ri' hi' p b'∧Mv [r,ri,hi] [r,ri',hi'] sg sg'
theorem Gd.ow {sg:Sg} {ow:Ow} {r ri hi:Nat} {p:Int} {b':Bd} {sg':Sg} {ow':Ow} (h:Gd sg ow r ri hi p b' sg' ow'):ow <+: ow':=h.1
theorem Gd.same {sg:Sg} {r ri hi:Nat} {p:Int} {b:Bd} (h:BS sg r ri hi p b) (ow:Ow):Gd sg ow r ri hi p b sg ow:=⟨List.prefix_refl _,ri,hi,h,.refl _ _⟩
theorem Gd.pre {sg sg1:Sg} {ow ow1 ow':Ow} {r ri hi ri1 hi1:Nat} {p:Int} {b':Bd} {sg':Sg} (hm:Mv [r,ri,hi] [r,ri1,hi1] sg sg1) (ho:ow <+: ow1) (h:Gd sg1 ow1 r ri1 hi1 p b' sg' ow'):Gd sg ow r ri hi p b' sg' ow':=by
 obtain⟨h1,ri',hi',h2,h3⟩:=h
 exact⟨ho.trans h1,ri',hi',h2,hm.trans h3⟩
theorem Gd.appL {sg t:Sg} {ow ow':Ow} {r ri hi:Nat} {p:Int} {b':Bd} {sg':Sg} (h:Gd (sg++t) ow r ri hi p b' sg' ow'):Gd sg ow r ri hi p b' sg' ow':=.pre (.app _ _ _) (List.prefix_refl _) h
theorem BS.row {sg sg1:Sg} {r ri hi:Nat} {p:Int} {b:Bd} {v:PV} {rv hv:PV} {x:Rw} (hx:LiC x.a∧LiC x.b∧LiC x.c) (hcl:BdC b) (h0:sg[r]?=some (false,[.t (.int .u64 p),.t (.int .u64 p),.t (.int .i64 b.pub),.t (.int .i64 b.vars),rv,.t (.int .i64 b.sec),hv])) (hh:Bf sg r hv hi 4 b.hints.length (b.hints.flatMap cHt)) (hne:ri=hi→ri=r) (h1:Bf sg1 r v sg.length 3 (b.rows.length+1) (b.rows.flatMap cRw++cRw x)) (hl:sg.length≤sg1.length) (hf:∀ i,i < sg.length→i≠ri∨ri=r→sg1[i]?=sg[i]?) (ow:Ow) :
  Gd sg ow r ri hi p (e9E x.a x.b x.c b) (sg1.set r (false,[.t (.int .u64 p),.t (.int .u64 p),.t (.int .i64 b.pub),.t (.int .i64 b.vars),v,.t (.int .i64 b.sec),hv])) ow:=by
 have hr:=d4Y h0
 have hhi:=hh.lt hr
 have hri:ri=hi→hi=r:=fun e=>by rw[←e];exact hne e
 have hcl':BdC (e9E x.a x.b x.c b):=⟨fun y hy=>by
  rcases g4F.1 hy with hy|hy
  ·exact hcl.r y hy
  ·rw[g4M.1 hy];exact hx,hcl.h⟩
 refine⟨List.prefix_refl _,sg.length,hi,⟨⟨v,hv,?_,?_,?_⟩,fun e=>by omega,hcl'⟩,?_⟩
 ·rw[g3S (by omega)];rfl
 ·have:Bf sg1 r v sg.length 3 (e9E x.a x.b x.c b).rows.length ((e9E x.a x.b x.c b).rows.flatMap cRw):=by
   simpa [e9E] using h1
  exact this.get fun hn _=>g3R (fun e=>hn e.symm)
 ·refine hh.get fun hn hlt=>?_
  rw[g3R (fun e=>hn e.symm)]
  refine hf hi hlt ?_
  by_cases e:hi=ri
  ·exact absurd (hri e.symm) hn
  ·exact .inl e
 ·refine Mv.set (i:=r) ⟨hl,fun i hi' hn=>?_,fun i hi'=>?_⟩ (.inl (by simp)) _
  ·simp only[g4G,g4N,or_false,not_or] at hn
   exact hf i hi' (.inl hn.2.1)
  ·simp only[g4G,g4N,or_false] at hi' ⊢
   rcases hi' with rfl|rfl|rfl
   ·exact .inl (.inl rfl)
   ·exact .inr (g4U _)
   ·exact .inl (.inr (.inr rfl))
theorem BS.hint {sg sg1:Sg} {r ri hi:Nat} {p:Int} {b:Bd} {v:PV} {rv hv:PV} {x:Ht} (hx:LiC x.a∧LiC x.b) (hcl:BdC b) (h0:sg[r]?=some (false,[.t (.int .u64 p),.t (.int .u64 p),.t (.int .i64 b.pub),.t (.int .i64 b.vars),rv,.t (.int .i64 b.sec),hv])) (hh:Bf sg r rv ri 3 b.rows.length (b.rows.flatMap cRw)) (hne:ri=hi→ri=r) (h1:Bf sg1 r v sg.length 4 (b.hints.length+1) (b.hints.flatMap cHt++cHt x)) (hl:sg.length≤sg1.length) (hf:∀ i,i < sg.length→i≠hi∨hi=r→sg1[i]?=sg[i]?) (ow:Ow) :
  Gd sg ow r ri hi p ⟨b.pub,b.sec,b.vars+1,b.rows,b.hints++[x]⟩ (sg1.set r (false,[.t (.int .u64 p),.t (.int .u64 p),.t (.int .i64 b.pub),.t (.int .i64 (b.vars+1)),rv,.t (.int .i64 b.sec),v])) ow:=by
 have hr:=d4Y h0
 have hri:=hh.lt hr
 have hcl':BdC ⟨b.pub,b.sec,b.vars+1,b.rows,b.hints++[x]⟩:=⟨hcl.r,fun y hy=>by
  rcases g4F.1 hy with hy|hy
  ·exact hcl.h y hy
  ·rw[g4M.1 hy];exact hx⟩
 refine⟨List.prefix_refl _,ri,sg.length,⟨⟨rv,v,?_,?_,?_⟩,fun e=>by omega,hcl'⟩,?_⟩
 ·rw[g3S (by omega)]
 ·refine hh.get fun hn hlt=>?_
  rw[g3R (fun e=>hn e.symm)]
  refine hf ri hlt ?_
  by_cases e:ri=hi
  ·exact absurd (hne e) hn
  ·exact .inl e
 ·have:Bf sg1 r v sg.length 4 (b.hints++[x]).length ((b.hints++[x]).flatMap cHt):=by
   simpa using h1
  exact this.get fun hn _=>g3R (fun e=>hn e.symm)
 ·refine Mv.set (i:=r) ⟨hl,fun i hi' hn=>?_,fun i hi'=>?_⟩ (.inl (by simp)) _
  ·simp only[g4G,g4N,or_false,not_or] at hn
   exact hf i hi' (.inl hn.2.2)
  ·simp only[g4G,g4N,or_false] at hi' ⊢
   rcases hi' with rfl|rfl|rfl
   ·exact .inl (.inl rfl)
   ·exact .inl (.inr (.inl rfl))
   ·exact .inr (g4U _)
end Go.Ky

/- KX 88: slices whose elements are filled one by one. No program in sight. -/
namespace Go.Ky
open Go.Pi Go.Lx
theorem f3W {cs:List PV} {i:Nat} {x:PV} (h:cs[i]?=some x):cs.set i x=cs:=by
 apply List.ext_getElem?
 intro j
 by_cases hj:i=j
 ·subst hj
  rw[g3S (g3N.1 h).1,h]
 ·rw[g3R hj]
theorem f3X:∀ (vs cs:List PV) (off:Nat),off+vs.length≤cs.length→setRange cs off vs=cs.take off++vs++cs.drop (off+vs.length)
 |[],cs,off,h=>by simp [setRange]
 |v::r,cs,off,h=>by
  have hl:off < cs.length:=by simp only[g3W] at h;omega
  rw[setRange,f3X r _ _ (by rw[g3Z];simp only[g3W] at h;omega)]
  apply List.ext_getElem?
  intro i
  have t1:(List.take (off+1) (cs.set off v))=cs.take off++[v]:=by
   rw[List.take_add_one,g3S hl,List.take_set_of_le (g4U _)];rfl
  have t2:List.drop (off+1+r.length) (cs.set off v)=List.drop (off+(v::r).length) cs:=by
   rw[List.drop_set_of_lt (by omega),g3W,show off+1+r.length=off+(r.length+1) by omega]
  rw[t1,t2]
  simp
section
variable {α:Type} (t:α→List T) (z:List T)
def cG (l:List α):List PV:=(l.flatMap t).map PV.t
def f3Y (n:Nat) (l:List α):List PV:=cG t l++(List.replicate (n - l.length) z).flatten.map PV.t
variable {t z}
theorem f3Z:cG t []=[]:=rfl
theorem f4A (a:α) (l:List α):cG t (a::l)=(t a).map PV.t++cG t l:=by unfold cG;rw[List.flatMap_cons,g4C]
theorem f4B (l m:List α):cG t (l++m)=cG t l++cG t m:=by unfold cG;rw[List.flatMap_append,g4C]
theorem f4C {sz:Nat} (h:∀ x,(t x).length=sz) (l:List α):(cG t l).length=l.length * sz:=by
 induction l with
 |nil=>simp [cG]
 |cons a r ih=>rw[f4A,g3V,g3X,h,ih,g3W,g4Q];omega
theorem f4D {sz:Nat} (hz:z.length=sz) (k:Nat):((List.replicate k z).flatten.map PV.t).length=k * sz:=by
 rw[g3X,List.length_flatten]
 simp [hz]
theorem f4E (n:Nat):f3Y t z n []=(List.replicate n z).flatten.map PV.t:=by unfold f3Y;simp [cG]
theorem f4F {n:Nat} {l:List α} (h:l.length=n):f3Y t z n l=cG t l:=by unfold f3Y;rw[h,Nat.sub_self];simp
theorem f4G {sz:Nat} (h:∀ x,(t x).length=sz) (hz:z.length=sz) {n:Nat} {l:List α} (hl:l.length≤n):(f3Y t z n l).length=n * sz:=by
 unfold f3Y
 rw[g3V,f4C h,f4D hz,←g4Q]
 congr 1
 omega
theorem f4H {sz:Nat} (h:∀ x,(t x).length=sz) (hz:z.length=sz) {n:Nat} {l:List α} (hl:l.length < n) (x:α):setRange (f3Y t z n l) (l.length * sz) ((t x).map PV.t)=f3Y t z n (l++[x]):=by
 have e1:=f4G h hz (Nat.le_of_lt hl)
 have e2:=f4C h l
 obtain⟨k,hk⟩:∃ k,n - l.length=k+1:=⟨n - l.length - 1,by omega⟩
 have e3:(l.length+1) * sz≤n * sz:=g4Y sz hl
 rw[g4Q,Nat.one_mul] at e3
 rw[f3X _ _ _ (by rw[g3X,h,e1];exact e3)]
 unfold f3Y
 rw[List.take_append_of_le_length (by omega),List.take_of_length_le (by omega),g3X,h,f4B,f4A,f3Z,g3B,hk,List.replicate_succ,g3G,g4C,g3V,List.length_singleton,show n - (l.length+1)=k by omega]
 have ez:(z.map PV.t).length=sz:=by rw[g3X,hz]
 rw[←g3A (cG t l) (z.map PV.t),List.drop_left' (by rw[g3V,e2,ez])]
theorem f4I {sz:Nat} (h:∀ x,(t x).length=sz):∀ (l:List α) (i:Nat) (x:α) (r:List PV),l[i]?=some x→((cG t l++r).drop (i * sz)).take sz=(t x).map PV.t
 |[],i,x,r,hx=>by simp at hx
 |a::l,0,x,r,hx=>by
  have:a=x:=by simpa using hx
  subst this
  rw[f4A,Nat.zero_mul,g3E,g3A,List.take_append_of_le_length (by rw[g3X,h];exact g4U _),List.take_of_length_le (by rw[g3X,h];exact g4U _)]
 |a::l,i+1,x,r,hx=>by
  rw[f4A,g3A,show(i+1) * sz=sz+i * sz by rw[g4Q,Nat.one_mul];omega,←g3D,List.drop_left' (by rw[g3X,h])]
  exact f4I h l i x r (by simpa using hx)
theorem f4J {sz:Nat} (h:∀ x,(t x).length=sz) {l:List α} {i:Nat} {x:α} (r:List PV) (hx:l[i]?=some x) (j:Nat) (hj:j < sz):(cG t l++r)[i * sz+j]?=(t x)[j]?.map PV.t:=by
 have:=f4I h l i x r hx
 have h2:=congrArg (fun q=>q[j]?) this
 simp only[g3T,if_pos hj,g3K,g3O] at h2
 exact h2
theorem a5C (l:List T):allT (l.map PV.t)=some l:=by
 induction l with
 |nil=>rfl
 |cons a r ih=>rw[g4D,allT,ih];rfl
theorem f4K {l:List T} (h:l.any T.isAgg=false):(l.map PV.t).mapM a0M=some l:=by
 induction l with
 |nil=>rfl
 |cons a r ih =>
  simp only[List.any_cons,g2T] at h
  rw[g4D,g4B,ih h.2]
  simp [a0M,close1,h.1]
theorem f4L {sz:Nat} (h:∀ x,(t x).length=sz) (l:List α):a0C sz l.length (l.flatMap t)=l.map t:=by
 induction l with
 |nil=>rfl
 |cons a r ih =>
  rw[g3W,List.flatMap_cons,a0C,List.take_append_of_le_length (by rw[h];exact g4U _),List.take_of_length_le (by rw[h];exact g4U _),List.drop_append_of_le_length (by rw[h];exact g4U _),List.drop_of_length_le (by rw[h];exact g4U _),List.nil_append,ih,g4D]
theorem f4M (ha:∀ x,(t x).any T.isAgg=false) (l:List α):(l.flatMap t).any T.isAgg=false:=by
 induction l with
 |nil=>rfl
 |cons a r ih=>rw[List.flatMap_cons,List.any_append,ha,ih];rfl
theorem f4N {sz:Nat} (hz:0 < sz) (h:∀ x,(t x).length=sz) (ha:∀ x,(t x).any T.isAgg=false) {sg:Sg} {a:Nat} {l:List α} (hs:sg[a]?=some (false,cG t l)) (h0:l≠[]):a1J sg a 0 l.length sz=some (l.map t):=by
 have hl:0 < l.length:=List.length_pos_iff.2 h0
 unfold a1J
 rw[hs]
 have hln:=f4C h l
 simp only[hln,g5A,g3E]
 rw[if_pos ⟨Nat.mul_pos hl hz,g4U _,hz⟩,List.take_of_length_le (by rw[hln];exact g4U _)]
 unfold cG
 rw[f4K (f4M ha l)]
 simp only[g5F,f4L h]
theorem f4O {sz:Nat} (h:∀ x,(t x).length=sz) (ha:∀ x,(t x).any T.isAgg=false) {sg:Sg} {a:Nat} {l:List α} (hs:sg[a]?=some (false,cG t l)):a0L sg sz (.ls a 0 l.length sz)=some (l.map t):=by
 have hln:=f4C h l
 simp only[a0L,a0K,hs,if_true,g5A,g3E]
 rw[if_pos (by rw[hln];exact g4U _),List.take_of_length_le (by rw[hln];exact g4U _)]
 unfold cG
 rw[a5C]
 simp only[f4M ha,f4L h]
 rfl
theorem f4P {sz:Nat} (h:∀ x,(t x).length=sz) {l:List α} {i:Nat} {x:α} (hx:l[i]?=some x):setRange (cG t l) (i * sz) ((t x).map PV.t)=cG t l:=by
 have hi:=(g3N.1 hx).1
 have hle:(i+1) * sz≤l.length * sz:=g4Y sz hi
 rw[g4Q,Nat.one_mul] at hle
 have hl:=f4C h l
 have ht:=f4I h l i x [] hx
 rw[g3B] at ht
 rw[f3X _ _ _ (by rw[g3X,h,hl];exact hle),g3X,h,←ht,g3A,←g3D,g4P,g4P]
theorem f4Q (l:List α):cG t l=l.flatMap fun x=>(t x).map PV.t:=by unfold cG;rw[List.map_flatMap]
theorem f4R {sz:Nat} (hz:0 < sz) (h:∀ x,(t x).length=sz) (ha:∀ x,(t x).any T.isAgg=false) {sg:Sg} {id:Nat} {l:List α} (hs:sg[id]?=some (false,cG t l)) (h0:l≠[]) {bytes:Nat} (hr:a0N l.length bytes=true) :
  a0V sg sz bytes (.lit []) (.bf id l.length sz)=some (.bf sg.length l.length sz,sg++[(false,cG t l)]):=by
 have he:a0L sg sz (.bf id l.length sz)=some (l.map t):=f4O h ha hs
 unfold a0V
 rw[he]
 cases l with
 |nil=>exact absurd rfl h0
 |cons x r =>
  have hall:(t x::r.map t).all (fun x=>x.length == sz)=true:=by
   rw[g2Y]
   intro y hy
   rcases g4G.1 hy with rfl|hy
   ·simp [h]
   ·obtain⟨z,_,rfl⟩:=List.mem_map.1 hy
    simp [h]
  have hln:(t x::r.map t).length=(x::r).length:=by simp
  simp only[g4D]
  rw[if_pos ⟨hall,hz⟩,hln,if_pos hr]
  rfl
variable (t z)
theorem f4S {sz:Nat} (hz:z.length=sz) (hs:0 < sz) (sg:Sg) (ow:Ow) {n bytes:Nat} (hr:a0N n bytes=true):∃ v r ow',b6S false sg ow sz bytes z (.t (.int .i64 n)) (.t (.int .i64 n))=some (v,sg++r,ow')∧ow <+: ow'∧((n=0∧(∃ k,v=.own k sz [])∧r=[])∨(0 < n∧v=.ls sg.length 0 n sz∧r=[(false,f3Y t z n [])])):=by
 by_cases h0:n=0
 ·subst h0
  refine⟨.own ow.length sz [],[],ow++[0],?_,List.prefix_append _ _,.inl ⟨rfl,⟨_,rfl⟩,rfl⟩⟩
  simp [b6S,hr,hz,hs]
 ·refine⟨.ls sg.length 0 n sz,[(false,f3Y t z n [])],ow,?_,List.prefix_refl _,.inr ⟨by omega,rfl,rfl⟩⟩
  have h1:¬(n:Int)=0:=by omega
  rw[f4E]
  simp [b6S,hr,hz,hs]
  exact h0
end
end Go.Ky

/- KX 89: the compiler in the store; values as trees. No program in sight. -/
namespace Go.Ky
open Go.Pi Go.Lx
abbrev tVc (v:Vc):List T:=[.sl false (tLs v.els),.int .i64 v.typ.kind,.int .i64 v.typ.bits,.int .i64 v.typ.len,.int .i64 v.num]
theorem f4T (v:Vc):(tVc v).length=5:=rfl
theorem f4U (v:Vc):(tVc v).any T.isAgg=false:=rfl
abbrev zVt:List T:=[.sl true [],.int .i64 0,.int .i64 0,.int .i64 0,.int .i64 0]
abbrev iC (sc:Sx):List PV:=d4Z (fun v=>.agg (tVc v)) sc
abbrev iFc (fs:Fs):List PV:=d4Z (fun x=>.agg (tFu x)) fs
abbrev cCm (p:Int) (r fm:Nat) (rows:Int) (full:Bool):Bool×List PV:=(false,[.t (.int .u64 p),.lp r 0,.mp fm,.t (.int .i64 rows),.t (.bool full)])
structure CS (sg:Sg) (c r ri hi fm:Nat) (p:Int) (fa:Fs) (s:Cst):Prop where
 hc:sg[c]?=some (cCm p r fm s.rows s.full)
 hf:sg[fm]?=some (true,iFc fa)
 hb:BS sg r ri hi p s.b
 cc:c ∉ [r,ri,hi]
 cf:fm ∉ [c,r,ri,hi]
theorem CS.lt {sg:Sg} {c r ri hi fm:Nat} {p:Int} {fa:Fs} {s:Cst} (h:CS sg c r ri hi fm p fa s):∀ i,i∈[c,r,ri,hi]→i < sg.length:=by
 obtain⟨l1,l2,l3⟩:=h.hb.lt
 have l0:=d4Y h.hc
 intro i hi
 simp only[g4G,g4N,or_false] at hi
 rcases hi with rfl|rfl|rfl|rfl <;> assumption
theorem CS.new {sg:Sg} {c r ri hi fm:Nat} {p:Int} {fa:Fs} {s:Cst} (h:CS sg c r ri hi fm p fa s) {i:Nat} (hn:sg.length≤i):i ∉ [c,r,ri,hi]:=fun e=>by
 have:=h.lt i e
 omega
theorem BS.new {sg:Sg} {r ri hi:Nat} {p:Int} {b:Bd} (h:BS sg r ri hi p b) {i:Nat} (hn:sg.length≤i):i ∉ [r,ri,hi]:=fun e=>by
 obtain⟨l1,l2,l3⟩:=h.lt
 simp only[g4G,g4N,or_false] at e
 omega
theorem CS.app {sg:Sg} {c r ri hi fm:Nat} {p:Int} {fa:Fs} {s:Cst} (h:CS sg c r ri hi fm p fa s) (t:Sg):CS (sg++t) c r ri hi fm p fa s:=⟨b1V h.hc,b1V h.hf,h.hb.app t,h.cc,h.cf⟩
theorem CS.grow {sg sg':Sg} {c r ri hi fm:Nat} {p:Int} {fa:Fs} {s:Cst} (h:CS sg c r ri hi fm p fa s) (hg:Grow sg sg'):CS sg' c r ri hi fm p fa s:=by
 obtain⟨t,rfl⟩:=hg
 exact h.app t
theorem CS.set {sg:Sg} {c r ri hi fm:Nat} {p:Int} {fa:Fs} {s:Cst} (h:CS sg c r ri hi fm p fa s) {i:Nat} (hn:i ∉ [c,r,ri,hi]) (hf:i≠fm) (x:Bool×List PV):CS (sg.set i x) c r ri hi fm p fa s:=by
 have h1:i≠c:=fun e=>hn (by simp [e])
 exact⟨by rw[g3R h1];exact h.hc,by rw[g3R hf];exact h.hf,h.hb.set (fun e=>hn (g4H _ e)) x,h.cc,h.cf⟩
def Cd (sg:Sg) (ow:Ow) (c r ri hi fm:Nat) (p:Int) (fa:Fs) (s':Cst) (sg':Sg) (ow':Ow):Prop:=ow <+: ow'∧∃ ri' hi',CS sg' c r ri' hi' fm p fa s'∧Mv [c,r,ri,hi] [c,r,ri',hi'] sg sg'
theorem Cd.same {sg:Sg} {c r ri hi fm:Nat} {p:Int} {fa:Fs} {s:Cst} (h:CS sg c r ri hi fm p fa s) (ow:Ow):Cd sg ow c r ri hi fm p fa s sg ow:=⟨List.prefix_refl _,ri,hi,h,.refl _ _⟩
theorem Cd.pre {sg sg1:Sg} {ow ow1 ow':Ow} {c r ri hi ri1 hi1 fm:Nat} {p:Int} {fa:Fs} {s':Cst} {sg':Sg} (hm:Mv [c,r,ri,hi] [c,r,ri1,hi1] sg sg1) (ho:ow <+: ow1) (h:Cd sg1 ow1 c r ri1 hi1 fm p fa s' sg' ow'):Cd sg ow c r ri hi fm p fa s' sg' ow':=by
 obtain⟨h1,ri',hi',h2,h3⟩:=h
 exact⟨ho.trans h1,ri',hi',h2,hm.trans h3⟩
theorem Cd.app {sg t:Sg} {ow ow':Ow} {c r ri hi fm:Nat} {p:Int} {fa:Fs} {s':Cst} {sg':Sg} (h:Cd (sg++t) ow c r ri hi fm p fa s' sg' ow'):Cd sg ow c r ri hi fm p fa s' sg' ow':=.pre (.app _ _ _) (List.prefix_refl _) h
theorem Cd.grow {sg:Sg} {ow ow' ow2:Ow} {c r ri hi fm:Nat} {p:Int} {fa:Fs} {s':Cst} {sg' sg2:Sg} (h:Cd sg ow c r ri hi fm p fa s' sg' ow') (hg:Grow sg' sg2) (ho:ow' <+: ow2):Cd sg ow c r ri hi fm p fa s' sg2 ow2:=by
 obtain⟨h1,ri',hi',h2,h3⟩:=h
 exact⟨h1.trans ho,ri',hi',h2.grow hg,h3.trans (.grow hg)⟩
theorem Cd.set {sg:Sg} {ow ow':Ow} {c r ri hi fm:Nat} {p:Int} {fa:Fs} {s':Cst} {sg':Sg} (h:Cd sg ow c r ri hi fm p fa s' sg' ow') {i:Nat} (h1:sg.length≤i) (hf:fm < sg.length) (hc:∀ ri' hi',CS sg' c r ri' hi' fm p fa s'→Mv [c,r,ri,hi] [c,r,ri',hi'] sg sg'→i ∉ [c,r,ri',hi']) (x:Bool×List PV):Cd sg ow c r ri hi fm p fa s' (sg'.set i x) ow':=by
 obtain⟨h2,ri',hi',h3,h4⟩:=h
 exact⟨h2,ri',hi',h3.set (hc _ _ h3 h4) (by omega) x,h4.set (.inr h1) x⟩
theorem CS.gd {sg:Sg} {ow ow':Ow} {c r ri hi fm:Nat} {p:Int} {fa:Fs} {s:Cst} {b':Bd} {sg':Sg} (h:CS sg c r ri hi fm p fa s) (hG:Gd sg ow r ri hi p b' sg' ow'):Cd sg ow c r ri hi fm p fa ⟨b',s.rows,s.full⟩ sg' ow':=by
 obtain⟨h1,ri',hi',h2,h3⟩:=hG
 have lc:=d4Y h.hc
 have lf:=d4Y h.hf
 have hfr:fm ∉ [r,ri,hi]:=fun e=>h.cf (g4H _ e)
 have hfc:fm≠c:=fun e=>h.cf (by simp [e])
 refine⟨h1,ri',hi',⟨h3.get h.hc h.cc,h3.get h.hf hfr,h2,h3.cold lc h.cc,fun e=>?_⟩,h3.cons c⟩
 rcases g4G.1 e with e|e
 ·exact hfc e
 ·exact h3.cold lf hfr e
theorem CS.rows {sg:Sg} {c r ri hi fm:Nat} {p:Int} {fa:Fs} {s:Cst} (h:CS sg c r ri hi fm p fa s) (rows:Int) (full:Bool):CS (sg.set c (cCm p r fm rows full)) c r ri hi fm p fa ⟨s.b,rows,full⟩:=by
 have hfc:fm≠c:=fun e=>h.cf (by simp [e])
 exact⟨g3S (d4Y h.hc),by rw[g3R (Ne.symm hfc)];exact h.hf,h.hb.set h.cc _,h.cc,h.cf⟩
theorem BS.map {sg:Sg} {r ri hi:Nat} {p:Int} {b:Bd} (h:BS sg r ri hi p b) {m:Nat} {es:List PV} (hm:sg[m]?=some (true,es)):m ∉ [r,ri,hi]:=fun e=>by
 obtain⟨rv,hv,h1,h2,h3⟩:=h.ex
 have hr:m≠r:=fun e=>by rw[e,h1] at hm;cases hm
 simp only[g4G,g4N,or_false] at e
 rcases e with e|e|e
 ·exact hr e
 ·rcases h2 with⟨_,_,h2,_⟩|⟨_,_,h2,_⟩
  ·exact hr (by rw[e,h2])
  ·rw[e,h2] at hm;cases hm
 ·rcases h3 with⟨_,_,h3,_⟩|⟨_,_,h3,_⟩
  ·exact hr (by rw[e,h3])
  ·rw[e,h3] at hm;cases hm
theorem CS.map {sg:Sg} {c r ri hi fm:Nat} {p:Int} {fa:Fs} {s:Cst} (h:CS sg c r ri hi fm p fa s) {m:Nat} {es:List PV} (hm:sg[m]?=some (true,es)):m ∉ [c,r,ri,hi]:=fun e=>by
 rcases g4G.1 e with e|e
 ·rw[e,h.hc] at hm;cases hm
 ·exact h.hb.map hm e
theorem Mv.perm {h h' k k':List Nat} {x y:Sg} (a:Mv h h' x y) (h1:∀ i,i∈h→i∈k) (h2:∀ i,i∈k'→i∈h'∨i∈k):Mv k k' x y :=
 ⟨a.1,fun i hi hn=>a.2.1 i hi fun e=>hn (h1 i e),fun i hi=>by
  rcases h2 i hi with e|e
  ·exact(a.2.2 i e).imp (h1 i) id
  ·exact .inl e⟩
theorem Mv.loc {a:Nat} {h h':List Nat} {x y:Sg} (hm:Mv (a::h) (a::h') x y) (ha:x.length≤a):Mv h h' x y:=by
 refine⟨hm.1,fun i hi hn=>hm.2.1 i hi fun e=>?_,fun i hi=>?_⟩
 ·rcases g4G.1 e with e|e
  ·omega
  ·exact hn e
 ·rcases hm.2.2 i (g4H _ hi) with e|e
  ·rcases g4G.1 e with e|e
   ·exact .inr (by omega)
   ·exact .inl e
  ·exact .inr e
end Go.Ky

/- KX 91: a loop of hashes, and what the compiler makes of it. No program in sight. -/
namespace Go.Ky
open Go.Pi Go.Lx
def f4V:Exp:=.mk 1 1 [] true []
def f4W (m:Nat):Exp:=.mk 6 5 [] false (List.replicate m f4V)
def f4X (m:Nat):St:=.mk 1 [104] false zTy (f4W m) 0 0 true []
def zE:Exp:=.mk 0 0 [] true []
def f4Y (h:Int) (m:Nat):St:=.mk 3 [105] false zTy zE 0 h false [f4X m]
def f4Z (h:Int) (m:Nat):Pg:=⟨true,[],true,[],false,[f4Y h m]⟩
theorem m8 {P:Nat→Prop} (h:∀ m,m∈List.range' 1 8→P m) {m:Nat} (h1:1≤m) (h8:m≤8):P m:=h m (by rw[List.mem_range'_1];omega)
theorem f5A {m:Nat} (h1:1≤m) (h8:m≤8):stB (f4X m)=true:=m8 (P:=fun m=>stB (f4X m)=true) (by decide +kernel) h1 h8
theorem f5B {m:Nat} (h1:1≤m) (h8:m≤8):shS (f4X m)=true:=m8 (P:=fun m=>shS (f4X m)=true) (by decide +kernel) h1 h8
theorem f5C {h:Int} (h0:0≤h) (hh:h≤800) {m:Nat} (h1:1≤m) (h8:m≤8):stB (f4Y h m)=true:=by
 rw[d3D,if_neg (show ¬((f4Y h m).kind=1) from show ¬((3:Int)=1) by decide),if_neg (show ¬((f4Y h m).kind=2) from show ¬((3:Int)=2) by decide),if_pos (show(f4Y h m).kind=3 from rfl)]
 have e1:d2U [105]=true:=by decide +kernel
 show(d2U [105]&&true&&true&&true&&d2Z h&&(stB (f4X m)&&true))=true
 rw[e1,f5A h1 h8]
 unfold d2Z
 simp only[Bool.and_true,g2V,g2R,g5L]
 omega
theorem f5D (h:Int) {m:Nat} (h1:1≤m) (h8:m≤8):shS (f4Y h m)=true:=by
 rw[d3M]
 have e:dSt (f4Y h m)=2:=rfl
 rw[e]
 show(true&&true&&(shS (f4X m)&&true))=true
 rw[f5B h1 h8];rfl
theorem f5E {h:Int} (h0:0≤h) (hh:h≤800) {m:Nat} (h1:1≤m) (h8:m≤8):d3N (f4Z h m)=0:=by
 refine valid_zero.2 ⟨rfl,rfl,?_,rfl,?_⟩
 ·show(stB (f4Y h m)&&true)=true
  rw[f5C h0 hh h1 h8];rfl
 ·show(shS (f4Y h m)&&true)=true
  rw[f5D h h1 h8];rfl
theorem f5F (fs:Fs) (ns:Ns) (w:Int):∀ m,d4C fs ns (List.replicate m f4V) w=((List.replicate m ⟨3,1,0⟩,0),w)
 |0=>rfl
 |m+1=>by
  have h1:exM fs ns f4V w=((⟨3,1,0⟩,0),w):=rfl
  rw[List.replicate_succ,d6C,h1,if_neg (by simp)]
  simp only
  rw[f5F fs ns w m,if_neg (by simp)];rfl
theorem f5G (fs:Fs) (ns:Ns) (w:Int) (m:Nat):exM fs ns (f4W m) w=((d1V,0),w):=by
 rw[d4D,if_neg (show ¬((f4W m).op=8) from show ¬((6:Int)=8) by decide)]
 show(let q:=d4C fs ns (List.replicate m f4V) w;if q.1.2≠0 then (bad q.1.2,q.2) else opM fs ns 6 5 [] q.1.1 q.2)=_
 rw[f5F]
 simp only
 rw[if_neg (by simp)]
 have ha:(List.replicate m (⟨3,1,0⟩:Ty)).all d3R=true:=by
  rw[g2Y]
  intro x hx
  rw[(List.mem_replicate.1 hx).2];rfl
 show(d3T d3R (List.replicate m ⟨3,1,0⟩) d1V,w)=_
 unfold d3T
 rw[if_pos ha]
theorem f5H (h w:Int) (m:Nat):stM [] (f4X m) [([105],⟨d1V,true,0,h⟩)] w=(0,[([105],⟨d1V,true,0,h⟩),([104],⟨d1V,false,0,0⟩)],w):=by
 rw[d4I,if_neg (show ¬((f4X m).kind=3) from show ¬((1:Int)=3) by decide)]
 show(let q:=exM [] [([105],⟨d1V,true,0,h⟩)] (f4W m) w;if q.1.2≠0 then (q.1.2,[([105],⟨d1V,true,0,h⟩)],q.2) else d4E [104] ⟨q.1.1,false,0,0⟩ [([105],⟨d1V,true,0,h⟩)] q.2)=_
 rw[f5G]
 rfl
theorem f5I {h:Int} (h0:0≤h) (m:Nat):stM [] (f4Y h m) [] 0=(0,[],0):=by
 rw[d4I,if_pos (show(f4Y h m).kind=3 from rfl),if_neg (show ¬((f4Y h m).lo > (f4Y h m).hi) from show ¬((0:Int) > h) by omega)]
 show(match d4G [] [f4X m] [([105],⟨d1V,true,0,h⟩)] 0 with|(d2,ns2,w2)=>if d2≠0 then (d2,ns2,w2) else (0,[],w2))=_
 rw[d6K,f5H]
 rfl
theorem f5J {h:Int} (h0:0≤h) (m:Nat):d4N (f4Z h m)=(0,0):=by
 have e:d4G [] [f4Y h m] [] 0=(0,[],0):=by
  rw[d6K,f5I h0];rfl
 show(match d4H [] [f4Y h m] [] 0 with|(d2,_,w2)=>(d2,w2))=_
 unfold d4H
 rw[e];rfl
theorem f5K (ks:Ks):∀ m,d4P ks (List.replicate m f4V) 0=0
 |0=>rfl
 |m+1=>by
  have h1:csE ks f4V=0:=rfl
  rw[List.replicate_succ,d4P,h1]
  exact f5K ks m
theorem f5L {h:Int} (h0:0≤h) (hh:h≤800) (m:Nat):d4V (f4Z h m)=h:=by
 have e1:csE [] (f4W m)=0:=by
  rw[d4Q]
  show mn 20001 (d4P [] (List.replicate m f4V) 0)=0
  rw[f5K];rfl
 have e2:d4R [] [f4X m] 0=1:=by
  rw[d4R,d4S,if_neg (show ¬((f4X m).kind=3) from show ¬((1:Int)=3) by decide)]
  show d4R [] [] (mn (0+(1+csE [] (f4W m))) 20001)=1
  rw[e1];rfl
 show d4R [] [f4Y h m] 0=h
 rw[d4R,d4S,if_pos (show(f4Y h m).kind=3 from rfl)]
 show mn (0+(h - 0) * d4R [] [f4X m] 0) 20001=h
 rw[e2]
 unfold mn
 split <;> omega
theorem f5M {h:Int} (h0:0≤h) (hh:h≤800) {m:Nat} (h1:1≤m) (h8:m≤8):d4W (f4Z h m)=(0,h,0):=by
 unfold d4W
 rw[if_neg (show ¬(d3N (f4Z h m)≠0) from fun x=>x (f5E h0 hh h1 h8)),f5J h0]
 simp only
 rw[if_neg (by simp),f5L h0 hh,if_neg (by omega)]
theorem f5N (Φ:Fo) (Ψ:Fc) (sc:Sx) (s:Cst):∀ m,f1M Φ Ψ sc (List.replicate m f4V) s=(List.replicate m (f0X (e8U Φ 1) (d3Q 1)),s)
 |0=>rfl
 |m+1=>by
  have h1:evC Φ Ψ sc f4V s=(f0X (e8U Φ 1) (d3Q 1),s):=rfl
  rw[List.replicate_succ,f1M,h1]
  simp only
  rw[f5N Φ Ψ sc s m];rfl
theorem f5O (Φ:Fo) (Ψ:Fc) (sc:Sx) (s:Cst) (m:Nat):(evC Φ Ψ sc (f4W m) s).2=(f1F Φ 5 (List.replicate m (e8U Φ 1)) s).2:=by
 rw[f1N,if_neg (show ¬((f4W m).op=2) from show ¬((6:Int)=2) by decide),if_neg (show ¬((f4W m).op=8) from show ¬((6:Int)=8) by decide)]
 show(opC Φ Ψ 6 5 [] (f1M Φ Ψ sc (List.replicate m f4V) s).1 (f1M Φ Ψ sc (List.replicate m f4V) s).2).2=_
 rw[f5N]
 show(f1F Φ 5 ((List.replicate m (f0X (e8U Φ 1) (d3Q 1))).map f0Y) s).2=_
 rw[List.map_replicate];rfl
theorem f5P (Φ:Fo) (Ψ:Fc) (sc:Sx) {s:Cst} (hs:s.full=false) (m:Nat):(f1Q Φ Ψ [f4X m] sc s).2=(f1F Φ 5 (List.replicate m (e8U Φ 1)) s).2:=by
 rw[f1Z Φ Ψ _ _ sc hs]
 have e:(stC Φ Ψ (f4X m) sc s).2=(f1F Φ 5 (List.replicate m (e8U Φ 1)) s).2:=by
  rw[f1R,if_pos (show(f4X m).kind=1 from rfl)]
  show(evC Φ Ψ sc (f4W m) s).2=_
  exact f5O Φ Ψ sc s m
 by_cases hf:(stC Φ Ψ (f4X m) sc s).2.full=true
 ·rw[f1Y Φ Ψ [] _ hf];exact e
 ·rw[f1Q];exact e
structure At (s:Cst) (r:Int):Prop where
 full:s.full=false
 rows:s.rows=r
 len:(s.b.rows.length:Int)=r
 vars:s.b.vars=1+r
theorem f5Q {Φ:Fo} (he:Φ.ex=3∨Φ.ex=5∨Φ.ex=7) {l:List Li} (hl:l≠[]) {s:Cst} {r:Int} (h:At s r) :
  (r+f0H Φ.ex l.length≤16384→At (f1F Φ 5 l s).2 (r+f0H Φ.ex l.length))∧(16384 < r+f0H Φ.ex l.length→(f1F Φ 5 l s).2.full=true):=by
 have e:((l.length:Int)+1) / 2 * 8 * 3 * f1E Φ.ex=f0H Φ.ex l.length:=by
  unfold f0H f1E f0C
  rcases he with h|h|h <;> rw[h] <;> simp <;> omega
 have hst:=f0J Φ 5 hl s.b
 unfold f1F
 rw[e]
 unfold f1B f0Z
 rw[h.full,h.rows]
 constructor
 ·intro h1
  rw[if_pos (by simp;omega)]
  exact⟨rfl,rfl,by show((e9S Φ 5 l s.b).2.rows.length:Int)=_;rw[hst.rows,h.len],by show(e9S Φ 5 l s.b).2.vars=_;rw[hst.vars,h.vars];omega⟩
 ·intro h1
  rw[if_neg (by simp;omega)]
theorem f5R {f:Int→Sx→Cst→Sx×Cst}:∀ (k:Nat) (n:Int) (sc:Sx) {s:Cst},s.full=true→(itC f k n sc s).2.full=true
 |0,n,sc,s,h=>by rw[itC];exact h
 |k+1,n,sc,s,h=>by rw[itC,if_pos h];exact h
theorem f5S {f:Int→Sx→Cst→Sx×Cst} {R:Int} (hR:0≤R) (hf:∀ n sc s r,At s r→(r+R≤16384→At (f n sc s).2 (r+R))∧(16384 < r+R→(f n sc s).2.full=true)) :
  ∀ (k:Nat) (n:Int) (sc:Sx) (s:Cst) (r:Int),At s r→(r+k * R≤16384→At (itC f k n sc s).2 (r+k * R))∧(16384 < r+k * R→r≤16384→(itC f k n sc s).2.full=true)
 |0,n,sc,s,r,h=>by
  rw[itC]
  refine⟨fun _=>?_,fun h1 h2=>?_⟩
  ·have e:r+((0:Nat):Int) * R=r:=by simp
   rw[e];exact h
  ·simp at h1;omega
 |k+1,n,sc,s,r,h=>by
  rw[itC,if_neg (by rw[h.full];decide)]
  obtain⟨a1,a2⟩:=hf n sc s r h
  have e:r+((k+1:Nat):Int) * R=(r+R)+k * R:=by rw[Int.natCast_add,Int.add_mul];omega
  have hk:0≤(k:Int) * R:=Int.mul_nonneg (by omega) hR
  rw[e]
  by_cases c:r+R≤16384
  ·obtain⟨b1,b2⟩:=f5S hR hf k (n+1) (f n sc s).1 (f n sc s).2 (r+R) (a1 c)
   exact⟨b1,fun x _=>b2 x c⟩
  ·have:=f5R (f:=f) k (n+1) (f n sc s).1 (a2 (by omega))
   exact⟨fun x=>by omega,fun _ _=>this⟩
theorem f5T {Φ:Fo} (he:Φ.ex=3∨Φ.ex=5∨Φ.ex=7) (hp:1 < Φ.p) {h:Int} (h0:0≤h) (hh:h≤800) {m:Nat} (h1:1≤m) (h8:m≤8) :
  (16384 < h * f0H Φ.ex m→compC Φ (f4Z h m) true=(none,3))∧(h * f0H Φ.ex m≤16384→∃ b,compC Φ (f4Z h m) true=(some b,0)∧(b.rows.length:Int)=h * f0H Φ.ex m):=by
 have hx:=f5M h0 hh h1 h8
 have hi:d7U (f4Z h m)=(0,0):=by unfold d7U;rw[hx];rfl
 have hne:List.replicate m (e8U Φ 1)≠[]:=by
  intro hn
  have:=congrArg List.length hn
  simp at this;omega
 have hlen:(List.replicate m (e8U Φ 1)).length=m:=by simp
 have hR:0≤f0H Φ.ex m:=by
  have:=f0D Φ.ex
  unfold f0H
  exact Int.mul_nonneg (by omega) (by omega)
 have hA0:At ⟨f1W 0 0,0,false⟩ 0:=⟨rfl,rfl,rfl,rfl⟩
 have hit:=f5S (f:=fun n sc1 s1=>f1Q Φ fc0 [f4X m] (e6Z [105] ⟨[e8U Φ n],d1V,n⟩ sc1) s1) hR (fun n sc s r hA=>by
  have:=f5Q he hne hA
  rw[hlen] at this
  rw[f5P Φ fc0 _ hA.full]
  exact this) h.toNat 0 [] ⟨f1W 0 0,0,false⟩ 0 hA0
 have ek:(0:Int)+(h.toNat:Int) * f0H Φ.ex m=h * f0H Φ.ex m:=by rw[Int.toNat_of_nonneg h0];omega
 rw[ek] at hit
 have hrun:(∀ r,r=h * f0H Φ.ex m→r≤16384→At (f1X Φ (f4Z h m) 0 0) r)∧(16384 < h * f0H Φ.ex m→(f1X Φ (f4Z h m) 0 0).full=true):=by
  have e1:f1X Φ (f4Z h m) 0 0=(f1Q Φ fc0 [f4Y h m] [] ⟨f1W 0 0,0,false⟩).2:=rfl
  have e2:stC Φ fc0 (f4Y h m) [] ⟨f1W 0 0,0,false⟩=if idS (f4Y h m) then ([],⟨f1W 0 0,0,false⟩) else itC (fun n sc1 s1=>f1Q Φ fc0 [f4X m] (e6Z [105] ⟨[e8U Φ n],d1V,n⟩ sc1) s1) h.toNat 0 [] ⟨f1W 0 0,0,false⟩:=by
   rw[f1R,if_neg (show ¬((f4Y h m).kind=1) from show ¬((3:Int)=1) by decide),if_neg (show ¬((f4Y h m).kind=2) from show ¬((3:Int)=2) by decide),if_pos (show(f4Y h m).kind=3 from rfl)]
   show(if idS (f4Y h m) then _ else itC _ (h - 0).toNat _ _ _)=_
   rw[Int.sub_zero];rfl
  have e3:∀ q:Sx×Cst,(f1Q Φ fc0 [] q.1 q.2).2=q.2:=fun q=>by rw[f1Q]
  have hid:idS (f4Y h m)=decide (0≥h):=by
   rw[e7F,if_neg (show ¬((f4Y h m).kind≠3) from show ¬((3:Int)≠3) by decide)]
   have:idS (f4X m)=false:=rfl
   show(if (0:Int)≥h then true else (idS (f4X m)&&true))=_
   rw[this]
   by_cases c:(0:Int)≥h
   ·rw[if_pos c,g5K c]
   ·rw[if_neg c,g5I c];rfl
  rw[e1,f1Z Φ fc0 _ _ _ rfl,e3,e2,hid]
  by_cases c:(0:Int)≥h
  ·have hz:h=0:=by omega
   subst hz
   refine⟨fun r hr _=>?_,fun x=>by omega⟩
   have:r=0:=by omega
   subst this
   exact hA0
  ·rw[g5I c]
   exact⟨fun r hr hle=>by rw[hr];exact hit.1 (by omega),fun x=>hit.2 x (by decide)⟩
 unfold compC
 rw[hx,hi]
 simp only
 have hp2:(2:Int) ^ ((0:Int)).toNat=1:=by decide
 have g1:¬((0:Int)≠0):=fun x=>x rfl
 have g2:¬¬(True∧Φ.p > 2 ^ (0:Int).toNat):=fun x=>x ⟨trivial,by rw[hp2];exact hp⟩
 have g3:¬((0:Int)+0≥65536):=by decide
 rw[if_neg g1,if_neg g2,if_neg g3]
 constructor
 ·intro hT
  rw[if_pos (hrun.2 hT)]
 ·intro hT
  have hA:=hrun.1 _ rfl hT
  rw[if_neg (by rw[hA.full];decide),if_neg (by rw[hA.len,hA.vars];omega)]
  exact⟨_,rfl,hA.len⟩
end Go.Ky
