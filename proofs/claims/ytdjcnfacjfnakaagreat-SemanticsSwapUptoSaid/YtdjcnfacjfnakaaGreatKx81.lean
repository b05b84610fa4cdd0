/- KX 70: two asserts at the end of a program change places: the checker's answer. No program in sight. -/
import Derived.Test.YtdjcnfacjfnakaaGreatKx19
import Derived.Test.YtdjcnfacjfnakaaGreatKx19
import Derived.Test.YtdjcnfacjfnakaaGreatKx27
import Derived.Test.YtdjcnfacjfnakaaGreatPi29
import Derived.Test.YtdjcnfacjfnakaaGreatKx19
set_option linter.unusedSimpArgs false
set_option linter.unusedVariables false
namespace Go.Ky
open Go.Pi Go.Lx
theorem f1N (a b c:Int):mx (mx a b) c=mx a (mx b c):=by unfold mx;repeat' split <;> omega
theorem f1O (a b:Int):mx a b=mx b a:=by unfold mx;repeat' split <;> omega
theorem f1P {w:Int} (h:0≤w):mx w 0=w:=by unfold mx;rw[if_neg (by omega)]
theorem f1Q {w k:Int} (h:0≤w):0≤mx w k:=by unfold mx;split <;> omega
def Wd {α:Type} (f:Int→α×Int):Prop:=∃ (r:α) (k:Int),0≤k∧∀ w,0≤w→f w=(r,mx w k)
theorem Wd.const {α:Type} (r:α):Wd fun w=>(r,w):=⟨r,0,Int.le_refl _,fun w hw=>by rw[f1P hw]⟩
theorem f1R (ns:Ns) (r:Rt) (b:Exp) (w:Int):d5S ns (r,w) b=((d5S ns (r,0) b).1,w):=by
 unfold d5S
 simp only
 repeat (first|rfl|split)
theorem f1S (x y:Ty):Wd fun w=>d5Q x y w:=by
 unfold d5Q
 by_cases h:x.kind≠3∨y.kind≠3∨x.len≠0∨y.len≠0
 ·simp only[if_pos h]
  exact .const _
 ·simp only[if_neg h]
  refine⟨(d3A,0),mx 0 (IntKind.i64.wrap (mx x.bits y.bits+1)),f1Q (Int.le_refl _),fun w hw=>?_⟩
  rw[←f1N,f1P hw]
theorem f1T (fs:Fs) (ns:Ns) (op v:Int) (nm:Nm) (l:List Ty):Wd fun w=>opM fs ns op v nm l w:=by
 unfold opM
 repeat (first|exact .const _|exact f1S _ _|split)
theorem f1U (fs:Fs) (ns:Ns):∀ (l:List Exp),(∀ e,e∈l→Wd fun w=>exM fs ns e w)→Wd fun w=>d5T fs ns l w:=by
 intro l
 induction l with
 |nil =>
  intro _
  simp only[d5T]
  exact .const _
 |cons a r ih =>
  intro h
  obtain⟨r1,k1,h1,e1⟩:=h a (by simp)
  obtain⟨r2,k2,h2,e2⟩:=ih fun x hx=>h x (by simp [hx])
  by_cases c:r1.2≠0
  ·refine⟨([],r1.2),k1,h1,fun w hw=>?_⟩
   show d5T fs ns (a::r) w=_
   have:=e1 w hw
   simp only at this
   rw[d7R,this]
   simp only
   rw[if_pos c]
  ·by_cases c2:r2.2≠0
   ·refine⟨([],r2.2),mx k1 k2,f1Q h1,fun w hw=>?_⟩
    show d5T fs ns (a::r) w=_
    have q1:=e1 w hw
    have q2:=e2 (mx w k1) (f1Q hw)
    simp only at q1 q2
    rw[d7R,q1]
    simp only
    rw[if_neg c,q2]
    simp only
    rw[if_pos c2,f1N]
   ·refine⟨(r1.1::r2.1,0),mx k1 k2,f1Q h1,fun w hw=>?_⟩
    show d5T fs ns (a::r) w=_
    have q1:=e1 w hw
    have q2:=e2 (mx w k1) (f1Q hw)
    simp only at q1 q2
    rw[d7R,q1]
    simp only
    rw[if_neg c,q2]
    simp only
    rw[if_neg c2,f1N]
theorem f1V (fs:Fs) (ns:Ns):∀ e,Wd fun w=>exM fs ns e w:=by
 refine Exp.ind fun e ih=>?_
 by_cases h8:e.op=8
 ·match hl:e.args with
  |[]=>exact⟨bad 99,0,Int.le_refl _,fun w hw=>by simp only;rw[d5U,if_pos h8,hl,f1P hw]⟩
  |[a]=>exact⟨bad 99,0,Int.le_refl _,fun w hw=>by simp only;rw[d5U,if_pos h8,hl,f1P hw]⟩
  |a::b::r =>
   obtain⟨r1,k1,h1,e1⟩:=ih a (by rw[hl];simp)
   refine⟨(d5S ns (r1,0) b).1,k1,h1,fun w hw=>?_⟩
   have:=e1 w hw
   simp only at this ⊢
   rw[d5U,if_pos h8,hl]
   simp only
   rw[this,f1R]
 ·obtain⟨r1,k1,h1,e1⟩:=f1U fs ns e.args ih
  by_cases c:r1.2≠0
  ·refine⟨bad r1.2,k1,h1,fun w hw=>?_⟩
   have:=e1 w hw
   simp only at this ⊢
   rw[d5U,if_neg h8]
   simp only
   rw[this]
   simp only
   rw[if_pos c]
  ·obtain⟨r2,k2,h2,e2⟩:=f1T fs ns e.op e.val e.name r1.1
   refine⟨r2,mx k1 k2,f1Q h1,fun w hw=>?_⟩
   have q1:=e1 w hw
   have q2:=e2 (mx w k1) (f1Q hw)
   simp only at q1 q2 ⊢
   rw[d5U,if_neg h8]
   simp only
   rw[q1]
   simp only
   rw[if_neg c,q2,f1N]
def asr (e:Exp):St:=.mk 2 [] false zTy e 0 0 true []
theorem f1W (fs:Fs) (e:Exp) (ns:Ns):∃ (d k:Int),0≤k∧∀ w,0≤w→stM fs (asr e) ns w=(d,ns,mx w k):=by
 obtain⟨r,k,hk,h⟩:=f1V fs ns e
 by_cases c:r.2≠0
 ·refine⟨r.2,k,hk,fun w hw=>?_⟩
  have:=h w hw
  simp only at this
  rw[d5Z,if_neg (by show ¬(2:Int)=3;decide)]
  simp only
  rw[show(asr e).ex=e from rfl,this]
  simp only
  rw[if_pos c]
 ·refine⟨if r.1≠d3A then 6 else 0,k,hk,fun w hw=>?_⟩
  have:=h w hw
  simp only at this
  rw[d5Z,if_neg (by show ¬(2:Int)=3;decide)]
  simp only
  rw[show(asr e).ex=e from rfl,this]
  simp only
  rw[if_neg c,if_pos (show(asr e).kind=2 from rfl)]
theorem f1X (fs:Fs) (a b:Exp) (ns:Ns) {w:Int} (hw:0≤w):((d5X fs [asr a,asr b] ns w).1=0↔(d5X fs [asr b,asr a] ns w).1=0)∧((d5X fs [asr a,asr b] ns w).1=0→d5X fs [asr a,asr b] ns w=d5X fs [asr b,asr a] ns w∧(d5X fs [asr a] ns w).1=0∧(d5X fs [asr b] ns w).1=0):=by
 obtain⟨d1,k1,h1,e1⟩:=f1W fs a ns
 obtain⟨d2,k2,h2,e2⟩:=f1W fs b ns
 have q:∀ (x:St) (d k:Int),(∀ w,0≤w→stM fs x ns w=(d,ns,mx w k))→∀ (y:St) (d' k':Int),(∀ w,0≤w→stM fs y ns w=(d',ns,mx w k'))→d5X fs [x,y] ns w=if d≠0 then (d,ns,mx w k) else (d',ns,mx (mx w k) k'):=by
  intro x d k hx y d' k' hy
  rw[d7Z,hx w hw]
  simp only
  by_cases c:d≠0
  ·rw[if_pos c,if_pos c]
  ·rw[if_neg c,if_neg c,d7Z,hy _ (f1Q hw)]
   simp only
   by_cases c':d'≠0
   ·rw[if_pos c']
   ·rw[if_neg c',d5X]
    have:d'=0:=g3I c'
    rw[this]
 have q1:∀ (x:St) (d k:Int),(∀ w,0≤w→stM fs x ns w=(d,ns,mx w k))→(d5X fs [x] ns w).1=d:=by
  intro x d k hx
  rw[d7Z,hx w hw]
  simp only
  by_cases c:d≠0
  ·rw[if_pos c]
  ·rw[if_neg c,d5X]
   exact(g3I c).symm
 rw[q _ _ _ e1 _ _ _ e2,q _ _ _ e2 _ _ _ e1,q1 _ _ _ e1,q1 _ _ _ e2]
 by_cases c1:d1=0
 ·by_cases c2:d2=0
  ·rw[if_neg (by simpa using c1),if_neg (by simpa using c2),c1,c2,f1N,f1N,f1O k1]
   exact⟨g3J,fun _=>⟨rfl,rfl,rfl⟩⟩
  ·rw[if_neg (by simpa using c1),if_pos c2]
   exact⟨g3J,fun h=>absurd h c2⟩
 ·rw[if_pos c1]
  refine⟨⟨fun h=>absurd h c1,fun h=>?_⟩,fun h=>absurd h c1⟩
  by_cases c2:d2=0
  ·rw[if_neg (by simpa using c2)] at h;exact absurd h c1
  ·rw[if_pos c2] at h;exact absurd h c2
end Go.Ky

/- KX 71: how a program is executed over a field, as a model: values, names, statements, calls. No program in sight. -/
namespace Go.Ky
open Go.Pi Go.Lx
structure Ops where
 red:Int→Int
 neg:Int→Int
 add:Int→Int→Int
 sub:Int→Int→Int
 mul:Int→Int→Int
 hash:Int→List Int→Int
structure Ops.Nn (O:Ops):Prop where
 red:∀ a,0≤a→0≤O.red a
 neg:∀ a,0≤a→0≤O.neg a
 add:∀ a b,0≤a→0≤b→0≤O.add a b
 sub:∀ a b,0≤a→0≤b→0≤O.sub a b
 mul:∀ a b,0≤a→0≤b→0≤O.mul a b
 hash:∀ v l,0≤v→(∀ n,n∈l→0≤n)→0≤O.hash v l
structure Vl where
 els:List Int
 arr:Bool
 num:Int
abbrev Sc:=List (Nm×Vl)
abbrev Fi:=Nm→List Vl→Bool→Vl×Bool
def zVl:Vl:=⟨[],false,0⟩
def f1Y (n:Int):Vl:=⟨[n],false,0⟩
def fst (v:Vl):Int:=v.els.getD 0 0
def f1Z {α:Type} (k:Nm) (n:α):List (Nm×α)→List (Nm×α)
 |[]=>[(k,n)]
 |(j,m)::r=>if k=j then (k,n)::r else (j,m)::f1Z k n r
def truth (b:Bool):Int:=if b then 1 else 0
def f2A (O:Ops) (op val:Int) (x:List Int):Int :=
 if op=1 then O.red val else if op=3 then 1 else if op=9 then O.neg (x.getD 0 0) else if op=10 then O.sub 1 (x.getD 0 0)
 else if op=11∨op=18 then O.mul (x.getD 0 0) (x.getD 1 0)
 else if op=12 then O.add (x.getD 0 0) (x.getD 1 0)
 else if op=13 then O.sub (x.getD 0 0) (x.getD 1 0)
 else if op=19 then O.sub (O.add (x.getD 0 0) (x.getD 1 0)) (O.mul (x.getD 0 0) (x.getD 1 0))
 else if op=14 then truth (decide (x.getD 0 0=x.getD 1 0))
 else if op=15 then truth (decide (x.getD 0 0≠x.getD 1 0))
 else if op=16 then truth (decide (x.getD 0 0 < x.getD 1 0))
 else if op=17 then truth (decide (x.getD 0 0≤x.getD 1 0))
 else 0
def opV (O:Ops) (Φ:Fi) (op val:Int) (nm:Nm) (vs:List Vl) (fl:Bool):Vl×Bool :=
 if op=5 then Φ nm vs fl
 else if op=6 then (f1Y (O.hash val (vs.map fst)),fl)
 else if op=7 then (⟨vs.map fst,true,0⟩,fl)
 else if op=20 then (if fst (vs.getD 0 zVl)≠0 then vs.getD 1 zVl else vs.getD 2 zVl,fl)
 else (f1Y (f2A O op val (vs.map fst)),fl)
def lkV (nm:Nm) (sc:Sc):Vl:=(look nm sc).getD zVl
def f2B (e:Exp) (sc:Sc):Int :=
 if e.op=2 then (lkV e.name sc).num
 else if e.op=12 then IntKind.i64.wrap ((lkV (e.args.getD 0 default).name sc).num+IntKind.i64.wrap (e.args.getD 1 default).val)
 else if e.op=13 then IntKind.i64.wrap ((lkV (e.args.getD 0 default).name sc).num - IntKind.i64.wrap (e.args.getD 1 default).val)
 else IntKind.i64.wrap e.val
mutual
def evV (O:Ops) (Φ:Fi) (sc:Sc):Exp→Bool→Vl×Bool
 |.mk op val nm _ l,fl =>
  if op=2 then (lkV nm sc,fl)
  else if op=8 then (match l with
   |a::b::_=>let q:=evV O Φ sc a fl;(f1Y (q.1.els.getD (f2B b sc).toNat 0),q.2)
   |_=>(zVl,fl))
  else let q:=f2C O Φ sc l fl;opV O Φ op val nm q.1 q.2
def f2C (O:Ops) (Φ:Fi) (sc:Sc):List Exp→Bool→List Vl×Bool
 |[],fl=>([],fl)
 |a::r,fl=>let q:=evV O Φ sc a fl;let q2:=f2C O Φ sc r q.2;(q.1::q2.1,q2.2)
end
theorem f2D (O:Ops) (Φ:Fi) (sc:Sc) (e:Exp) (fl:Bool):evV O Φ sc e fl=if e.op=2 then (lkV e.name sc,fl)
  else if e.op=8 then (match e.args with
   |a::b::_=>(f1Y ((evV O Φ sc a fl).1.els.getD (f2B b sc).toNat 0),(evV O Φ sc a fl).2)
   |_=>(zVl,fl))
  else opV O Φ e.op e.val e.name (f2C O Φ sc e.args fl).1 (f2C O Φ sc e.args fl).2:=by
 cases e with|mk op v n b l =>
 rcases l with _|⟨x,_|⟨y,r⟩⟩ <;> (simp only[evV];rfl)
def inR (l:List Int) (t:Ty):Bool:=l.all fun n=>!(decide (t.kind=2)&&decide (n > 1) || decide (t.kind=3)&&decide (n / 2 ^ t.bits.toNat≠0))
mutual
def idS:St→Bool
 |.mk k _ _ _ _ lo hi _ l=>if k≠3 then false else if lo≥hi then true else f2E l
def f2E:List St→Bool
 |[]=>true
 |s::r=>idS s&&f2E r
end
theorem f2F (l:List St):f2E l=l.all idS:=by
 induction l with
 |nil=>rfl
 |cons e r ih=>rw[f2E,ih];rfl
theorem f2G (s:St):idS s=if s.kind≠3 then false else if s.lo≥s.hi then true else s.body.all idS:=by
 cases s
 rw[idS,f2F];rfl
def iter (f:Int→Sc→Bool→Sc×Bool):Nat→Int→Sc→Bool→Sc×Bool
 |0,_,sc,fl=>(sc,fl)
 |k+1,n,sc,fl=>if fl then (sc,fl) else iter f k (n+1) (f n sc fl).1 (f n sc fl).2
mutual
def stV (O:Ops) (Φ:Fi):St→Sc→Bool→Sc×Bool
 |.mk k nm typed ty e lo hi nl l,sc,fl =>
  if k=1 then (f1Z nm (evV O Φ sc e fl).1 sc,(evV O Φ sc e fl).2 || (typed&&!inR (evV O Φ sc e fl).1.els ty))
  else if k=2 then (sc,(evV O Φ sc e fl).2 || decide (fst (evV O Φ sc e fl).1=0))
  else if k=3 then (if idS (.mk k nm typed ty e lo hi nl l) then (sc,fl) else iter (fun n sc1 fl1=>f2H O Φ l (f1Z nm ⟨[O.red n],false,n⟩ sc1) fl1) (hi - lo).toNat lo sc fl)
  else (sc,fl)
def f2H (O:Ops) (Φ:Fi):List St→Sc→Bool→Sc×Bool
 |[],sc,fl=>(sc,fl)
 |s::r,sc,fl=>if fl then (sc,fl) else f2H O Φ r (stV O Φ s sc fl).1 (stV O Φ s sc fl).2
end
theorem f2I (O:Ops) (Φ:Fi) (s:St) (sc:Sc) (fl:Bool):stV O Φ s sc fl =
  if s.kind=1 then (f1Z s.name (evV O Φ sc s.ex fl).1 sc,(evV O Φ sc s.ex fl).2 || (s.typed&&!inR (evV O Φ sc s.ex fl).1.els s.ty))
  else if s.kind=2 then (sc,(evV O Φ sc s.ex fl).2 || decide (fst (evV O Φ sc s.ex fl).1=0))
  else if s.kind=3 then (if idS s then (sc,fl) else iter (fun n sc1 fl1=>f2H O Φ s.body (f1Z s.name ⟨[O.red n],false,n⟩ sc1) fl1) (s.hi - s.lo).toNat s.lo sc fl)
  else (sc,fl):=by
 cases s
 rw[stV];rfl
def f2J:List Pa→List Vl→Sc→Sc
 |p::r,v::l,sc=>f2J r l (f1Z p.name v sc)
 |_,_,sc=>sc
def f2K (n:Int):Int:=if n < 1 then 1 else n
def f2L (O:Ops) (Φ:Fi) (f:Fu) (vs:List Vl) (fl:Bool):Vl×Bool :=
 if (f2H O Φ f.body (f2J f.params vs []) fl).2 then (⟨List.replicate (f2K f.res.len).toNat 0,decide (f.res.len≠0),0⟩,true)
 else evV O Φ (f2H O Φ f.body (f2J f.params vs []) fl).1 f.ret false
def fi0:Fi:=fun _ _ fl=>(zVl,fl)
def fiS (O:Ops) (f:Fu) (Φ:Fi):Fi:=fun nm vs fl=>if nm=f.name then f2L O Φ f vs fl else Φ nm vs fl
def f2M (O:Ops):List Fu→Fi→Fi
 |[],Φ=>Φ
 |f::r,Φ=>f2M O r (fiS O f Φ)
def inV:List De→List Int→List Int→Sc→Option Sc
 |[],_,_,sc=>some sc
 |d::r,pu,se,sc =>
  let n:=(f2K d.ty.len).toNat
  let l:=(if d.pub then pu else se).take n
  if inR l d.ty=false then none
  else inV r (if d.pub then pu.drop n else pu) (if d.pub then se else se.drop n) (f1Z d.name ⟨l,decide (d.ty.len≠0),0⟩ sc)
def f2N (O:Ops) (p:Pg) (pu se:List Int):Bool:=match inV p.decls pu se [] with
 |none=>false
 |some sc=>!(f2H O (f2M O p.funcs fi0) p.body sc false).2
def f2O (p:Pg) (k:Int) (known:Bool):Int:=if (d6N p).2.2≠0 then (d6N p).2.2 else if known=true∧k > 2 ^ (d6N p).1.toNat then 0 else 7
def f2P (O:Ops) (p:Pg) (k:Int) (known:Bool) (pu se:List Int):Bool×Int :=
 if f2O p k known≠0 then (false,f2O p k known)
 else if (pu.length:Int)≠(d9P p).1∨(se.length:Int)≠(d9P p).2∨pu.all (fun n=>decide (n < k))=false∨se.all (fun n=>decide (n < k))=false then (false,1)
 else (f2N O p pu se,0)
theorem f2Q {α:Type} (k j:Nm) (n:α) (ks:List (Nm×α)):look j (f1Z k n ks)=if j=k then some n else look j ks:=by
 induction ks with
 |nil =>
  simp only[f1Z,look]
 |cons x r ih =>
  obtain⟨i,m⟩:=x
  simp only[f1Z]
  by_cases h:k=i
  ·rw[if_pos h,look,look]
   by_cases h2:j=k
   ·rw[if_pos h2,if_pos h2]
   ·rw[if_neg h2,if_neg h2,if_neg (by rw[←h];exact h2)]
  ·rw[if_neg h,look,look,ih]
   by_cases h2:j=i
   ·rw[if_pos h2,if_neg (fun e=>h (by rw[←e,h2]))]
    rw[if_pos h2]
   ·rw[if_neg h2,if_neg h2]
theorem f2R (O:Ops) (Φ:Fi) (a b:List St):∀ (sc:Sc) (fl:Bool),f2H O Φ (a++b) sc fl=f2H O Φ b (f2H O Φ a sc fl).1 (f2H O Φ a sc fl).2:=by
 induction a with
 |nil=>intro sc fl;rw[f2H];rfl
 |cons s r ih =>
  intro sc fl
  rw[g3Q,f2H,f2H]
  cases fl with
  |true =>
   rw[if_pos rfl,if_pos rfl]
   cases b with
   |nil=>rw[f2H]
   |cons y t=>rw[f2H,if_pos rfl]
  |false=>rw[if_neg (by simp),if_neg (by simp)];exact ih _ _
end Go.Ky

/- KX 72: what the checker lets through has values of the right lengths. No program in sight. -/
namespace Go.Ky
open Go.Pi Go.Lx
def VOk (n:Int) (v:Vl):Prop:=0≤n∧n≤B47∧(v.els.length:Int)=f2K n∧∀ x,x∈v.els→0≤x
def VsOk:List Ty→List Vl→Prop
 |[],[]=>True
 |t::ts,v::vs=>VOk t.len v∧VsOk ts vs
 |_,_=>False
def PsOk:List Pa→List Vl→Prop
 |[],[]=>True
 |t::ts,v::vs=>VOk t.ty.len v∧PsOk ts vs
 |_,_=>False
def ScOk (ns:Ns) (sc:Sc):Prop:=∀ nm s,look nm ns=some s→∃ v,look nm sc=some v∧VOk s.typ.len v∧(s.loop=true→0≤s.low∧s.high≤1000000∧s.low≤v.num∧v.num < s.high)
def FiOk (fs:Fs) (Φ:Fi):Prop:=∀ nm f,look nm fs=some f→∀ vs fl,PsOk f.params vs→VOk f.res.len (Φ nm vs fl).1
theorem VOk.one {n:Int} (h:0≤n):VOk 0 (f1Y n):=⟨Int.le_refl _,by decide,rfl,fun x hx=>by
 have:x=n:=by simpa [f1Y] using hx
 omega⟩
theorem f2S {l:List Int} (h:∀ x,x∈l→0≤x) (i:Nat):0≤l.getD i 0:=by
 rw[List.getD_eq_getElem?_getD]
 cases hi:l[i]? with
 |none=>simp
 |some x=>simpa using h x (g4Y hi)
theorem VOk.fst {n:Int} {v:Vl} (h:VOk n v):0≤Ky.fst v:=f2S h.2.2.2 0
theorem VOk.pos {n:Int} {v:Vl} (h:VOk n v):0 < v.els.length:=by
 have h1:=h.2.2.1
 have h2:=h.1
 unfold f2K at h1
 split at h1 <;> omega
theorem VsOk.len:∀ {ts:List Ty} {vs:List Vl},VsOk ts vs→vs.length=ts.length
 |[],[],_=>rfl
 |t::ts,v::vs,h=>by simp [VsOk.len h.2]
 |[],v::vs,h=>h.elim
 |t::ts,[],h=>h.elim
theorem PsOk.len:∀ {ts:List Pa} {vs:List Vl},PsOk ts vs→vs.length=ts.length
 |[],[],_=>rfl
 |t::ts,v::vs,h=>by simp [PsOk.len h.2]
 |[],v::vs,h=>h.elim
 |t::ts,[],h=>h.elim
theorem VsOk.at:∀ {ts:List Ty} {vs:List Vl},VsOk ts vs→∀ i,i < ts.length→VOk (ts.getD i zTy).len (vs.getD i zVl)
 |[],[],_,i,hi=>absurd hi (by simp)
 |t::ts,v::vs,h,0,_=>by simpa using h.1
 |t::ts,v::vs,h,i+1,hi=>by simpa using VsOk.at h.2 i (by simpa using hi)
 |[],v::vs,h,_,_=>h.elim
 |t::ts,[],h,_,_=>h.elim
theorem VsOk.mem:∀ {ts:List Ty} {vs:List Vl},VsOk ts vs→∀ v,v∈vs→∃ n,VOk n v
 |[],[],_,v,hv=>by cases hv
 |t::ts,v::vs,h,x,hx=>by
  rcases g4U.1 hx with e|e
  ·subst e;exact⟨_,h.1⟩
  ·exact VsOk.mem h.2 x e
 |[],v::vs,h,_,_=>h.elim
 |t::ts,[],h,_,_=>h.elim
theorem VsOk.fsts {ts:List Ty} {vs:List Vl} (h:VsOk ts vs):∀ n,n∈vs.map Ky.fst→0≤n:=by
 intro n hn
 obtain⟨v,hv,rfl⟩:=List.mem_map.1 hn
 obtain⟨k,hk⟩:=h.mem v hv
 exact hk.fst
theorem f2T:∀ (ts:List Ty) (ps:List Pa) (vs:List Vl),VsOk ts vs→ts.length=ps.length→d5L ts ps=true→PsOk ps vs
 |[],[],[],_,_,_=>True.intro
 |t::ts,p::ps,v::vs,h,hl,hf=>by
  simp only[d5L,g3C] at hf
  obtain⟨f1,f2⟩:=hf
  refine⟨?_,f2T ts ps vs h.2 (by simpa using hl) f2⟩
  have:t.len=p.ty.len:=by
   unfold d5F at f1
   split at f1
   ·cases f1
   ·rename_i c;simpa using c
  rw[←this];exact h.1
 |[],[],v::vs,h,_,_=>h.elim
 |[],p::ps,_,_,hl,_=>by simp at hl
 |t::ts,[],_,_,hl,_=>by simp at hl
 |t::ts,p::ps,[],h,_,_=>h.elim
theorem f2U (b:Bool):0≤truth b:=by unfold truth;split <;> decide
theorem f2V {c:Prop} [Decidable c] {a b:Int} (h:0≤a) (h':0≤b):0≤if c then a else b:=by split <;> assumption
theorem f2W {O:Ops} (hO:O.Nn) {op val:Int} {x:List Int} (hv:0≤val) (hx:∀ n,n∈x→0≤n):0≤f2A O op val x:=by
 have h0:=f2S hx 0
 have h1:=f2S hx 1
 have z1:(0:Int)≤1:=by decide
 unfold f2A
 exact f2V (hO.red _ hv) (f2V z1 (f2V (hO.neg _ h0) (f2V (hO.sub _ _ z1 h0) (f2V (hO.mul _ _ h0 h1) (f2V (hO.add _ _ h0 h1) (f2V (hO.sub _ _ h0 h1) (f2V (hO.sub _ _ (hO.add _ _ h0 h1) (hO.mul _ _ h0 h1)) (f2V (f2U _) (f2V (f2U _) (f2V (f2U _) (f2V (f2U _) (Int.le_refl _))))))))))))
theorem f2X {p:Ty→Bool} {l:List Ty} {r:Ty} (h:(d5K p l r).2=0):(d5K p l r).1=r:=by
 unfold d5K at h ⊢
 split at h
 ·rename_i c;rw[if_pos c]
 ·cases h
theorem f2Y {x y:Ty} {w:Int} (h:(d5Q x y w).1.2=0):(d5Q x y w).1.1.len=0:=by
 unfold d5Q at h ⊢
 split at h
 ·cases h
 ·rename_i c;rw[if_neg c];rfl
theorem b1D {O:Ops} (hO:O.Nn) {Φ:Fi} {fs:Fs} (hΦ:FiOk fs Φ) {ns:Ns} {op val:Int} {nm:Nm} {ts:List Ty} {vs:List Vl} {w:Int} {fl:Bool} (hv:0≤val) (h2:op≠2) (h8:op≠8) (hl:ts.length≤B47) (hB:opB op (ts.length:Int) val nm=true) (h:VsOk ts vs) (he:(opM fs ns op val nm ts w).1.2=0) :
  VOk (opM fs ns op val nm ts w).1.1.len (opV O Φ op val nm vs fl).1:=by
 have sc:∀ t:Ty,t.len=0→(h5:op≠5)→(h6:op≠6)→(h7:op≠7)→(h20:op≠20)→VOk t.len (opV O Φ op val nm vs fl).1:=by
  intro t ht h5 h6 h7 h20
  unfold opV
  rw[if_neg h5,if_neg h6,if_neg h7,if_neg h20,ht]
  exact VOk.one (f2W hO hv h.fsts)
 unfold opM at he ⊢
 by_cases c1:op=1
 ·rw[if_pos c1]
  refine sc _ ?_ (by omega) (by omega) (by omega) (by omega)
  show(d5H val).len=0
  unfold d5H
  split <;> rfl
 rw[if_neg c1] at he ⊢
 by_cases c3:op=3∨op=4
 ·rw[if_pos c3]
  exact sc _ rfl (by omega) (by omega) (by omega) (by omega)
 rw[if_neg c3,if_neg h2] at he ⊢
 by_cases c5:op=5
 ·rw[if_pos c5] at he ⊢
  unfold opV
  rw[if_pos c5]
  simp only at he ⊢
  unfold d5M at he ⊢
  cases hf:look nm fs with
  |none=>rw[hf] at he;cases he
  |some f =>
   rw[hf] at he
   simp only at he ⊢
   split at he
   ·cases he
   ·rename_i c
    split at he
    ·rename_i cf
     rw[if_neg c,if_pos cf]
     exact hΦ nm f hf vs fl (f2T ts f.params vs h (by omega) cf)
    ·cases he
 rw[if_neg c5] at he ⊢
 by_cases c6:op=6
 ·rw[if_pos c6] at he ⊢
  simp only at he ⊢
  split at he
  ·cases he
  ·rename_i c
   rw[if_neg c,f2X he]
   unfold opV
   rw[if_neg c5,if_pos c6]
   exact VOk.one (hO.hash _ _ hv h.fsts)
 rw[if_neg c6] at he ⊢
 by_cases c7:op=7
 ·rw[if_pos c7] at he ⊢
  simp only at he ⊢
  unfold opV
  rw[if_neg c5,if_neg c6,if_pos c7]
  unfold d5O at he ⊢
  match ts,h,he,hl with
  |[],_,he,_=>cases he
  |a::r,h,he,hl =>
   simp only at he ⊢
   cases hg:d5N a (a::r) a with
   |none=>rw[hg] at he;cases he
   |some x =>
    have hlen:=h.len
    refine⟨by simp only;omega,by simp only;omega,?_,h.fsts⟩
    show(((vs.map Ky.fst).length:Nat):Int)=_
    rw[g4L,hlen]
    unfold f2K
    rw[if_neg (by simp only[g4J];omega)]
 rw[if_neg c7] at he ⊢
 by_cases c20:op=20
 ·rw[if_pos c20] at he ⊢
  simp only at he ⊢
  have h3:ts.length=3:=by
   subst c20
   unfold opB at hB
   simp at hB
   omega
  have v1:=h.at 1 (by omega)
  have v2:=h.at 2 (by omega)
  unfold opV
  rw[if_neg c5,if_neg c6,if_neg c7,if_pos c20]
  unfold d5P at he ⊢
  split at he
  ·cases he
  ·rename_i ca
   rw[if_neg ca]
   split at he
   ·rename_i cb
    rw[if_pos cb]
    rw[←cb] at v2
    simp only
    split <;> assumption
   ·rename_i cb
    rw[if_neg cb]
    split at he
    ·rename_i cc
     rw[if_pos cc]
     simp only[g3C,d5I,g6B] at cc
     rw[cc.1] at v1
     rw[cc.2] at v2
     simp only
     show VOk 0 _
     split <;> assumption
    ·cases he
 rw[if_neg c20] at he ⊢
 by_cases c14:op=14∨op=15
 ·rw[if_pos c14] at he ⊢
  simp only at he ⊢
  rw[f2X he]
  exact sc d3A rfl c5 c6 c7 c20
 rw[if_neg c14] at he ⊢
 by_cases c16:op=16∨op=17
 ·rw[if_pos c16] at he ⊢
  rw[f2Y he]
  exact sc d3A rfl c5 c6 c7 c20
 rw[if_neg c16] at he ⊢
 by_cases c10:op=10∨op=18∨op=19
 ·rw[if_pos c10] at he ⊢
  simp only at he ⊢
  rw[f2X he]
  exact sc d3A rfl c5 c6 c7 c20
 rw[if_neg c10] at he ⊢
 simp only at he ⊢
 rw[f2X he]
 exact sc fieldT rfl c5 c6 c7 c20
theorem f2Z (fs:Fs) (ns:Ns):∀ (l:List Exp) (w:Int),(d5T fs ns l w).1.2=0→(d5T fs ns l w).1.1.length=l.length:=by
 intro l
 induction l with
 |nil=>intro w _;rw[d5T];rfl
 |cons a r ih =>
  intro w
  rw[d7R]
  split
  ·intro h;contradiction
  ·split
   ·intro h;contradiction
   ·rename_i h2
    intro _
    simp [ih _ (by simpa using h2)]
theorem f3A {O:Ops} {Φ:Fi} {fs:Fs} {ns:Ns} {sc:Sc}:∀ (l:List Exp),(∀ e,e∈l→∀ w fl,(exM fs ns e w).1.2=0→VOk (exM fs ns e w).1.1.len (evV O Φ sc e fl).1)→∀ w fl,(d5T fs ns l w).1.2=0→VsOk (d5T fs ns l w).1.1 (f2C O Φ sc l fl).1:=by
 intro l
 induction l with
 |nil=>intro _ w fl _;rw[d5T,f2C];exact True.intro
 |cons a r ih =>
  intro h w fl
  rw[d7R,f2C]
  split
  ·intro h;contradiction
  ·rename_i h1
   split
   ·intro h;contradiction
   ·rename_i h2
    intro _
    exact⟨h a (by simp) w fl (by simpa using h1),ih (fun x hx=>h x (by simp [hx])) _ _ (by simpa using h2)⟩
theorem f3B {e:Exp} (h:ExpOk e):0≤e.val∧e.args.length≤B47∧∀ a,a∈e.args→ExpOk a:=by
 cases h with|mk _ h1 h2 h3 h4 h5 h=>exact⟨h2.1,h4,h⟩
theorem f3C {e:Exp} (h:exB e=true):(∀ a,a∈e.args→exB a=true)∧opB e.op (e.args.length:Int) e.val e.name=true:=by
 rw[d4O,g3C,g3L] at h
 exact h
theorem f3D {ns:Ns} {r:Rt×Int} {b:Exp} (h:(d5S ns r b).1.2=0):r.1.2=0∧d5R ns b r.1.1.len=(true,0)∧r.1.1.len≠0∧(d5S ns r b).1.1.len=0:=by
 unfold d5S at h ⊢
 by_cases c1:r.1.2≠0
 ·rw[if_pos c1] at h;exact absurd h c1
 rw[if_neg c1] at h ⊢
 simp only at h ⊢
 by_cases c2:(d5R ns b r.1.1.len).2≠0
 ·rw[if_pos c2] at h;exact absurd h c2
 rw[if_neg c2] at h ⊢
 by_cases c3:r.1.1.len=0
 ·rw[if_pos c3] at h;cases h
 rw[if_neg c3] at h ⊢
 by_cases c4:(d5R ns b r.1.1.len).1=false
 ·rw[if_pos c4] at h;cases h
 rw[if_neg c4] at h ⊢
 refine⟨by simpa using c1,?_,c3,rfl⟩
 exact Prod.ext (by simpa using c4) (by simpa using c2)
theorem f3E {O:Ops} (hO:O.Nn) {Φ:Fi} {fs:Fs} (hΦ:FiOk fs Φ) {ns:Ns} {sc:Sc} (hsc:ScOk ns sc):∀ e,ExpOk e→exB e=true→∀ w fl,(exM fs ns e w).1.2=0→VOk (exM fs ns e w).1.1.len (evV O Φ sc e fl).1:=by
 refine Exp.ind fun e ih hx hB w fl he=>?_
 obtain⟨x1,x2,x3⟩:=f3B hx
 obtain⟨b1,b2⟩:=f3C hB
 by_cases h8:e.op=8
 ·rw[d5U,if_pos h8] at he ⊢
  rw[f2D,if_neg (by omega),if_pos h8]
  match hl:e.args with
  |[]=>rw[hl] at he;cases he
  |[a]=>rw[hl] at he;cases he
  |a::b::r =>
   rw[hl] at he
   simp only at he ⊢
   obtain⟨i1,i2,i3,i4⟩:=f3D he
   rw[i4]
   have ha:a∈e.args:=by rw[hl];simp
   have:=ih a ha (x3 a ha) (b1 a ha) w fl i1
   exact VOk.one (f2S this.2.2.2 _)
 ·rw[d5U,if_neg h8] at he ⊢
  simp only at he ⊢
  have hs:=f3A (O:=O) (Φ:=Φ) (sc:=sc) (fs:=fs) (ns:=ns) e.args (fun a ha w fl=>ih a ha (x3 a ha) (b1 a ha) w fl) w fl
  by_cases c:(d5T fs ns e.args w).1.2≠0
  ·rw[if_pos c] at he;exact absurd he c
  rw[if_neg c] at he ⊢
  have hs:=hs (by simpa using c)
  have hlen:=f2Z fs ns e.args w (by simpa using c)
  by_cases h2:e.op=2
  ·rw[f2D,if_pos h2]
   unfold opM at he ⊢
   rw[if_neg (by omega),if_neg (by omega),if_pos h2] at he ⊢
   simp only at he ⊢
   cases hk:look e.name ns with
   |none=>rw[hk] at he;cases he
   |some s =>
    obtain⟨v,k1,k2,_⟩:=hsc _ _ hk
    simp only
    unfold lkV
    rw[k1]
    exact k2
  ·rw[f2D,if_neg h2,if_neg h8]
   exact b1D hO hΦ x1 h2 h8 (by omega) (by rw[hlen];exact b2) hs he
theorem f3F {ns:Ns} {sc:Sc} (hsc:ScOk ns sc) {b:Exp} {n:Int} (hb:ExpOk b) (h0:0≤n) (h1:n≤B47) (h:d5R ns b n=(true,0)):0≤f2B b sc∧f2B b sc < n:=by
 have hB:B47=140737488355328:=rfl
 rw[hB] at h1
 have hw:IntKind.u64.wrap n=n:=IntWalk.u64_in _ (by omega)
 unfold d5R at h
 simp only[hw] at h
 have hv:U64 b.val:=by cases hb with|mk _ h1 h2 h3 h4 h5 h=>exact h2
 unfold U64 at hv
 by_cases c1:b.op=1
 ·rw[if_pos c1] at h
  have h:=(Prod.mk.inj h).1
  simp at h
  unfold f2B
  rw[if_neg (by omega),if_neg (by omega),if_neg (by omega),IntWalk.i64_in _ (by omega)]
  omega
 rw[if_neg c1] at h
 by_cases c2:(b.op=12∨b.op=13)∧(b.args.getD 1 default).op≠1
 ·rw[if_pos c2] at h;cases h
 rw[if_neg c2] at h
 have hoff:U64 (b.args.getD 1 default).val:=by
  rw[List.getD_eq_getElem?_getD]
  cases hi:b.args[1]? with
  |none=>exact⟨by decide,by decide⟩
  |some a =>
   have:ExpOk a:=(f3B hb).2.2 a (g4Y hi)
   cases this with|mk _ h1 h2 h3 h4 h5 h=>exact h2
 unfold U64 at hoff
 have look_of:∀ (e:Exp) (s:Sy),look e.name ns=some s→s.loop=true→0≤s.low∧s.high≤1000000∧s.low≤(lkV e.name sc).num∧(lkV e.name sc).num < s.high:=by
  intro e s hs hl
  obtain⟨v,k1,k2,k3⟩:=hsc _ _ hs
  unfold lkV
  rw[k1]
  exact k3 hl
 by_cases c12:b.op=12∨b.op=13
 ·simp only[c12,if_true] at h
  split at h
  ·cases h
  ·split at h
   ·cases h
   ·rename_i s hs
    split at h
    ·cases h
    ·rename_i hl
     obtain⟨g1,g2,g3,g4⟩:=look_of _ s hs (by simpa using hl)
     rw[if_neg (by omega)] at h
     have w1:IntKind.i64.wrap (s.high - 1)=s.high - 1:=IntWalk.i64_in _ (by omega)
     have w2:IntKind.u64.wrap (s.high - 1)=s.high - 1:=IntWalk.u64_in _ (by omega)
     have w3:IntKind.u64.wrap s.low=s.low:=IntWalk.u64_in _ (by omega)
     simp only[w1,w2,w3] at h
     unfold f2B
     rw[if_neg (by omega)]
     by_cases c13:b.op=13
     ·rw[if_neg (by omega),if_pos c13]
      rw[if_pos c13] at h
      have h:=(Prod.mk.inj h).1
      simp only[g3C,g6B] at h
      rw[IntWalk.u64_in _ (by omega)] at h
      rw[IntWalk.i64_in (b.args.getD 1 default).val (by omega),IntWalk.i64_in _ (by omega)]
      omega
     ·rw[if_pos (by omega)]
      rw[if_neg c13] at h
      have h:=(Prod.mk.inj h).1
      simp only[g3C,g6B] at h
      rw[IntWalk.u64_in _ (by omega)] at h
      rw[IntWalk.i64_in (b.args.getD 1 default).val (by omega),IntWalk.i64_in _ (by omega)]
      omega
 ·simp only[c12,if_false] at h
  split at h
  ·cases h
  ·rename_i cn
   split at h
   ·cases h
   ·rename_i s hs
    split at h
    ·cases h
    ·rename_i hl
     obtain⟨g1,g2,g3,g4⟩:=look_of _ s hs (by simpa using hl)
     rw[if_neg (by omega)] at h
     have w1:IntKind.i64.wrap (s.high - 1)=s.high - 1:=IntWalk.i64_in _ (by omega)
     have w2:IntKind.u64.wrap (s.high - 1)=s.high - 1:=IntWalk.u64_in _ (by omega)
     have w3:IntKind.u64.wrap s.low=s.low:=IntWalk.u64_in _ (by omega)
     simp only[w1,w2,w3] at h
     unfold f2B
     rw[if_pos (by omega)]
     rw[if_neg (by omega)] at h
     have h:=(Prod.mk.inj h).1
     simp only[g3C,g6B,Int.add_zero,w2] at h
     omega
end Go.Ky

/- KX 73: statements, functions, inputs keep the names' values right. No program in sight. -/
namespace Go.Ky
open Go.Pi Go.Lx
theorem f3G {α:Type} (k:Nm) (s:α):look k [(k,s)]=some s:=by rw[look,if_pos rfl]
theorem f3H {α:Type} {k nm:Nm} (h:k≠nm) (s:α):look k [(nm,s)]=none:=by rw[look,if_neg h,look]
theorem ScOk.sub {ns r:Ns} {sc:Sc} (h:ScOk (ns++r) sc):ScOk ns sc:=by
 intro nm s hs
 refine h nm s ?_
 rw[d6W,hs]
theorem ScOk.new {ns:Ns} {sc:Sc} (h:ScOk ns sc) {nm:Nm} (hn:look nm ns=none) {s:Sy} {v:Vl} (hv:VOk s.typ.len v) (hl:s.loop=true→0≤s.low∧s.high≤1000000∧s.low≤v.num∧v.num < s.high):ScOk (ns++[(nm,s)]) (f1Z nm v sc):=by
 intro k t ht
 rw[d6W] at ht
 rw[f2Q]
 by_cases hk:k=nm
 ·subst hk
  rw[hn] at ht
  simp only[f3G] at ht
  rw[if_pos rfl]
  have:t=s:=by simpa using ht.symm
  subst this
  exact⟨v,rfl,hv,hl⟩
 ·rw[if_neg hk]
  cases hb:look k ns with
  |some x =>
   rw[hb] at ht
   have:x=t:=by simpa using ht
   subst this
   exact h k x hb
  |none =>
   rw[hb] at ht
   simp only[f3H hk] at ht
   cases ht
theorem f3I {nm:Nm} {s:Sy} {ns:Ns} {w:Int} (h:(d5V nm s ns w).1=0):look nm ns=none:=by
 unfold d5V at h
 cases hl:look nm ns with
 |none=>rfl
 |some x=>rw[hl] at h;cases h
theorem f3J {f:Int→Sc→Bool→Sc×Bool} {P:Sc→Prop} {lo hi:Int} (h:∀ n sc,lo≤n→n < hi→P sc→(f n sc false).2=true∨P (f n sc false).1):∀ (k:Nat) (n:Int) (sc:Sc),lo≤n→n+k≤hi→P sc→(iter f k n sc false).2=true∨P (iter f k n sc false).1:=by
 intro k
 induction k with
 |zero=>intro n sc _ _ hp;exact .inr hp
 |succ k ih =>
  intro n sc h1 h2 hp
  rw[iter,if_neg (show ¬(false=true) by decide)]
  have hf:=h n sc h1 (by omega) hp
  cases hb:(f n sc false).2 with
  |true =>
   left
   cases k with
   |zero=>rw[iter]
   |succ k=>rw[iter,if_pos rfl]
  |false =>
   rw[hb] at hf
   exact ih (n+1) _ (by omega) (by omega) (hf.resolve_left (by simp))
theorem f3K (O:Ops) (Φ:Fi) (l:List St) (sc:Sc):f2H O Φ l sc true=(sc,true):=by
 cases l with
 |nil=>rw[f2H]
 |cons s r=>rw[f2H,if_pos rfl]
theorem f3L {O:Ops} {Φ:Fi} {fs:Fs}:∀ (l:List St),(∀ s,s∈l→∀ ns sc w,ScOk ns sc→(stM fs s ns w).1=0→(stV O Φ s sc false).2=true∨ScOk (stM fs s ns w).2.1 (stV O Φ s sc false).1) →
  ∀ ns sc w,ScOk ns sc→(d5X fs l ns w).1=0→(f2H O Φ l sc false).2=true∨ScOk (d5X fs l ns w).2.1 (f2H O Φ l sc false).1:=by
 intro l
 induction l with
 |nil=>intro _ ns sc w h _;rw[d5X,f2H];exact .inr h
 |cons s r ih =>
  intro h ns sc w hs
  rw[d7Z,f2H,if_neg (show ¬(false=true) by decide)]
  by_cases h1:(stM fs s ns w).1≠0
  ·rw[if_pos h1];intro h;exact absurd h h1
  ·rw[if_neg h1]
   intro h2
   have h3:=h s (by simp) ns sc w hs (by simpa using h1)
   cases hb:(stV O Φ s sc false).2 with
   |true=>rw[f3K];exact .inl rfl
   |false =>
    rw[hb] at h3
    exact ih (fun x hx=>h x (by simp [hx])) _ _ _ (h3.resolve_left (by simp)) h2
theorem f3M {t:Ty} (h:tyB t=true):0≤t.len∧t.len≤64:=by
 unfold tyB at h
 split at h
 ·cases h
 ·omega
theorem f3N {t u:Ty} (h:d5F t u=true):t.len=u.len:=by
 unfold d5F at h
 split at h
 ·cases h
 ·rename_i c;simpa using c
theorem f3O {s:St} (h:stB s=true) (h3:s.kind≠3) (h2:s.kind≠2):s.kind=1:=by
 rw[d4U] at h
 by_cases h1:s.kind=1
 ·exact h1
 ·rw[if_neg h1,if_neg h2,if_neg h3] at h;cases h
theorem f3P {O:Ops} (hO:O.Nn) {Φ:Fi} {fs:Fs} (hΦ:FiOk fs Φ):∀ s,StOk s→stB s=true→∀ ns sc w,ScOk ns sc→(stM fs s ns w).1=0→(stV O Φ s sc false).2=true∨ScOk (stM fs s ns w).2.1 (stV O Φ s sc false).1:=by
 refine St.ind fun s ih hx hB ns sc w hsc he=>?_
 by_cases h3:s.kind=3
 ·have hb:=d8G hB h3
  have hxb:=d8I hx
  have hlk:=d9E fs s hB ns w he
  rw[d8T,if_pos h3] at hlk
  simp only[g3C,g6B] at hlk
  obtain⟨⟨⟨l1,l2⟩,l3⟩,-⟩:=hlk
  rw[d8C h3] at he ⊢
  rw[f2I,if_neg (by omega),if_neg (by omega),if_pos h3]
  have cg:¬s.lo > s.hi:=by omega
  rw[if_neg cg] at he ⊢
  by_cases c1:(d5V s.name ⟨fieldT,true,s.lo,s.hi⟩ ns w).1≠0
  ·rw[if_pos c1] at he;exact absurd he c1
  rw[if_neg c1] at he ⊢
  have c1':(d5V s.name ⟨fieldT,true,s.lo,s.hi⟩ ns w).1=0:=by simpa using c1
  have hnew:=f3I c1'
  rw[d7X c1'] at he ⊢
  simp only at he ⊢
  by_cases c2:(d5X fs s.body (ns++[(s.name,⟨fieldT,true,s.lo,s.hi⟩)]) w).1≠0
  ·rw[if_pos c2] at he;exact absurd he c2
  rw[if_neg c2]
  have c2':(d5X fs s.body (ns++[(s.name,⟨fieldT,true,s.lo,s.hi⟩)]) w).1=0:=by simpa using c2
  by_cases hid:idS s=true
  ·rw[if_pos hid];exact .inr hsc
  rw[if_neg hid]
  refine f3J (P:=ScOk ns) (lo:=s.lo) (hi:=s.hi) (fun n sc1 n1 n2 hp=>?_) _ _ _ (Int.le_refl _) (by omega) hsc
  have hp1:ScOk (ns++[(s.name,⟨fieldT,true,s.lo,s.hi⟩)]) (f1Z s.name ⟨[O.red n],false,n⟩ sc1) :=
   hp.new hnew (s:=⟨fieldT,true,s.lo,s.hi⟩) (v:=⟨[O.red n],false,n⟩) ⟨Int.le_refl _,(by decide:(0:Int)≤B47),rfl,fun x hx=>by
    have:x=O.red n:=by simpa using hx
    rw[this];exact hO.red _ (by omega)⟩ (fun _=>⟨l1,l3,n1,n2⟩)
  rcases f3L s.body (fun b hb'=>ih b hb' (hxb b hb') (hb b hb')) _ _ w hp1 c2' with h|h
  ·exact .inl h
  ·obtain⟨r,e,_⟩:=d8A fs s.body _ w c2'
   rw[e,g3N] at h
   exact .inr h.sub
 ·have hbx:=d8F hB h3
  have hxx:=d8H hx
  rw[d8D h3] at he ⊢
  by_cases c1:(exM fs ns s.ex w).1.2≠0
  ·rw[if_pos c1] at he;exact absurd he c1
  rw[if_neg c1] at he ⊢
  have hv:=f3E hO hΦ hsc s.ex hxx hbx w false (by simpa using c1)
  by_cases h2:s.kind=2
  ·rw[if_pos h2]
   rw[f2I,if_neg (by omega),if_pos h2]
   exact .inr hsc
  rw[if_neg h2] at he ⊢
  have h1:=f3O hB h3 h2
  rw[f2I,if_pos h1]
  right
  by_cases ht:s.typed=true
  ·rw[if_pos ht] at he ⊢
   split at he
   ·cases he
   ·rename_i c
    rw[if_neg c]
    have hlen:(exM fs ns s.ex w).1.1.len=s.ty.len:=by
     by_cases c0:s.ty.len=0
     ·rw[c0]
      exact g3I fun e=>c (.inl ⟨c0,e⟩)
     ·refine f3N ?_
      cases hf:d5F (exM fs ns s.ex w).1.1 s.ty with
      |true=>rfl
      |false=>exact absurd (.inr ⟨c0,hf⟩) c
    have hnew:=f3I he
    rw[d7X he]
    rw[hlen] at hv
    exact hsc.new hnew (s:=⟨s.ty,false,0,0⟩) hv (fun h=>by cases h)
  ·rw[if_neg ht] at he ⊢
   have hnew:=f3I he
   rw[d7X he]
   exact hsc.new hnew (s:=⟨(exM fs ns s.ex w).1.1,false,0,0⟩) hv (fun h=>by cases h)
theorem f3Q:∀ (ps:List Pa) (vs:List Vl) (ns:Ns) (sc:Sc) (w:Int),PsOk ps vs→ScOk ns sc→(d6A ps ns w).1=0→ScOk (d6A ps ns w).2.1 (f2J ps vs sc)
 |[],[],ns,sc,w,_,h,_=>by rw[d6A,f2J];exact h;all_goals simp
 |p::ps,v::vs,ns,sc,w,hp,h,he=>by
  rw[d8J] at he ⊢
  split at he
  ·contradiction
  ·rename_i c
   rw[if_neg c]
   have c':(d5V p.name ⟨p.ty,false,0,0⟩ ns w).1=0:=by simpa using c
   rw[f2J]
   have hn:=f3I c'
   rw[d7X c'] at he ⊢
   exact f3Q ps vs _ _ w hp.2 (h.new hn (s:=⟨p.ty,false,0,0⟩) hp.1 (fun h=>by cases h)) he
 |[],v::vs,_,_,_,h,_,_=>h.elim
 |p::ps,[],_,_,_,h,_,_=>h.elim
theorem ScOk.nil:ScOk [] []:=fun nm s h=>by cases h
theorem f3R {fs:Fs} {f:Fu} {w:Int} (h:(d6B fs f w).1=0):look f.name fs=none∧(d6B fs f w).2.1=fs++[(f.name,f)]∧(d6A f.params [] w).1=0∧(d5X fs f.body (d6A f.params [] w).2.1 (d6A f.params [] w).2.2).1=0 ∧
  (exM fs (d5X fs f.body (d6A f.params [] w).2.1 (d6A f.params [] w).2.2).2.1 f.ret (d5X fs f.body (d6A f.params [] w).2.1 (d6A f.params [] w).2.2).2.2).1.2=0 ∧
  d5F (exM fs (d5X fs f.body (d6A f.params [] w).2.1 (d6A f.params [] w).2.2).2.1 f.ret (d5X fs f.body (d6A f.params [] w).2.1 (d6A f.params [] w).2.2).2.2).1.1 f.res=true:=by
 cases hl:look f.name fs with
 |some x=>rw[d8O _ _ _ hl] at h;cases h
 |none =>
  rw[d8N _ _ _ hl] at h ⊢
  by_cases c1:(d6A f.params [] w).1≠0
  ·rw[if_pos c1] at h;exact absurd h c1
  rw[if_neg c1] at h ⊢
  by_cases c2:(d5X fs f.body (d6A f.params [] w).2.1 (d6A f.params [] w).2.2).1≠0
  ·rw[if_pos c2] at h;exact absurd h c2
  rw[if_neg c2] at h ⊢
  by_cases c3:(exM fs (d5X fs f.body (d6A f.params [] w).2.1 (d6A f.params [] w).2.2).2.1 f.ret (d5X fs f.body (d6A f.params [] w).2.1 (d6A f.params [] w).2.2).2.2).1.2≠0
  ·rw[if_pos c3] at h;exact absurd h c3
  rw[if_neg c3] at h ⊢
  cases c4:d5F (exM fs (d5X fs f.body (d6A f.params [] w).2.1 (d6A f.params [] w).2.2).2.1 f.ret (d5X fs f.body (d6A f.params [] w).2.1 (d6A f.params [] w).2.2).2.2).1.1 f.res with
  |false=>rw[c4,if_pos rfl] at h;cases h
  |true =>
   rw[if_neg (by simp)]
   exact⟨rfl,rfl,by simpa using c1,by simpa using c2,by simpa using c3,rfl⟩
theorem f3S {f:Fu} (h:fuB f=true):tyB f.res=true∧(∀ s,s∈f.body→stB s=true)∧exB f.ret=true:=by
 unfold fuB at h
 simp only[g3C,g3L] at h
 exact⟨h.1.1.2,h.1.2,h.2⟩
theorem f3T {O:Ops} (hO:O.Nn) {Φ:Fi} {fs:Fs} (hΦ:FiOk fs Φ) {f:Fu} (hx:FuOk f) (hB:fuB f=true) {w:Int} (h:(d6B fs f w).1=0) {vs:List Vl} (hp:PsOk f.params vs) (fl:Bool):VOk f.res.len (f2L O Φ f vs fl).1:=by
 obtain⟨b1,b2,b3⟩:=f3S hB
 obtain⟨h1,h2,h3,h4,h5,h6⟩:=f3R h
 obtain⟨r1,r2⟩:=f3M b1
 unfold f2L
 by_cases c:(f2H O Φ f.body (f2J f.params vs []) fl).2=true
 ·rw[if_pos c]
  have hl:0≤f2K f.res.len:=by unfold f2K;split <;> omega
  refine⟨r1,by show f.res.len≤140737488355328;omega,?_,fun x hx=>by rw[List.eq_of_mem_replicate hx];exact Int.le_refl _⟩
  show(((List.replicate _ (0:Int)).length:Nat):Int)=_
  rw[List.length_replicate]
  omega
 ·rw[if_neg c]
  have hfl:fl=false:=by
   cases fl with
   |false=>rfl
   |true=>rw[f3K] at c;exact absurd rfl c
  subst hfl
  have hsc:=f3Q f.params vs [] [] w hp .nil h3
  have:=f3L (O:=O) (Φ:=Φ) (fs:=fs) f.body (fun s hs=>f3P hO hΦ s (hx.bo s hs) (b2 s hs)) _ _ _ hsc h4
  have:=this.resolve_left c
  have:=f3E hO hΦ this f.ret hx.ret b3 _ false h5
  rw[f3N h6] at this
  exact this
theorem f3U {O:Ops} (hO:O.Nn) {Φ:Fi} {fs:Fs} (hΦ:FiOk fs Φ) {f:Fu} (hx:FuOk f) (hB:fuB f=true) {w:Int} (h:(d6B fs f w).1=0):FiOk (fs++[(f.name,f)]) (fiS O f Φ):=by
 obtain⟨h1,h2,h3⟩:=f3R h
 intro nm g hg vs fl hp
 rw[d6W] at hg
 unfold fiS
 by_cases hk:nm=f.name
 ·subst hk
  rw[h1] at hg
  simp only[f3G] at hg
  rw[if_pos rfl]
  have:f=g:=by simpa using hg
  subst this
  exact f3T hO hΦ hx hB h hp fl
 ·rw[if_neg hk]
  cases hb:look nm fs with
  |some y =>
   rw[hb] at hg
   have:y=g:=by simpa using hg
   subst this
   exact hΦ nm y hb vs fl hp
  |none =>
   rw[hb] at hg
   simp only[f3H hk] at hg
   cases hg
theorem f3V {O:Ops} (hO:O.Nn):∀ (l:List Fu) (Φ:Fi) (fs:Fs) (w:Int),FiOk fs Φ→(∀ f,f∈l→FuOk f∧fuB f=true)→(d6C l fs w).1=0→FiOk (d6C l fs w).2.1 (f2M O l Φ):=by
 intro l
 induction l with
 |nil=>intro Φ fs w h _ _;rw[d6C,f2M];exact h
 |cons f r ih =>
  intro Φ fs w h hl he
  rw[d8P] at he ⊢
  by_cases c:(d6B fs f w).1≠0
  ·rw[if_pos c] at he;exact absurd he c
  rw[if_neg c] at he ⊢
  have c':(d6B fs f w).1=0:=by simpa using c
  have h2:=f3U hO h (hl f (by simp)).1 (hl f (by simp)).2 c'
  rw[←(f3R c').2.1] at h2
  rw[f2M]
  exact ih _ _ _ h2 (fun x hx=>hl x (by simp [hx])) he
theorem FiOk.nil:FiOk [] fi0:=fun nm f h=>by cases h
def f3W:List De→Bool→Nat
 |[],_=>0
 |d::r,b=>(if d.pub=b then (f2K d.ty.len).toNat else 0)+f3W r b
theorem f3X {n:Int} (h:0≤n):mx n 1=f2K n:=by
 unfold mx f2K
 by_cases c:n < 1
 ·rw[if_pos c] <;> rfl
 ·rw[if_neg c] <;> rfl
theorem f3Y:∀ (l:List De) (a b:Int),(∀ d,d∈l→tyB d.ty=true)→0≤a→0≤b→a+64 * l.length≤1000000000000→b+64 * l.length≤1000000000000→d9O l a b=(a+f3W l true,b+f3W l false):=by
 intro l
 induction l with
 |nil=>intro a b _ _ _ _ _;simp [d9O,f3W]
 |cons d r ih =>
  intro a b hl ha hb ha2 hb2
  obtain⟨t1,t2⟩:=f3M (hl d (by simp))
  have hr:∀ x,x∈r→tyB x.ty=true:=fun x hx=>hl x (by simp [hx])
  rw[g4J] at ha2 hb2
  have hm:=f3X t1
  have hm2:1≤f2K d.ty.len∧f2K d.ty.len≤64:=by unfold f2K;split <;> omega
  rw[d9O,hm,f3W,f3W]
  cases hp:d.pub with
  |true =>
   rw[if_pos rfl,if_pos rfl,if_neg (by simp),IntWalk.i64_in _ (by omega),ih _ _ hr (by omega) hb (by omega) (by omega)]
   refine Prod.ext ?_ ?_
   ·simp only;omega
   ·simp only;omega
  |false =>
   rw[if_neg (by simp),if_neg (by simp),if_pos rfl,IntWalk.i64_in _ (by omega),ih _ _ hr ha (by omega) (by omega) (by omega)]
   refine Prod.ext ?_ ?_
   ·simp only;omega
   ·simp only;omega
theorem f3Z:∀ (l:List De) (pu se:List Int) (ns:Ns) (sc sc':Sc) (w:Int),(∀ d,d∈l→tyB d.ty=true)→ScOk ns sc→(d6D l ns w).1=0→(∀ x,x∈pu→0≤x)→(∀ x,x∈se→0≤x)→f3W l true≤pu.length→f3W l false≤se.length→inV l pu se sc=some sc'→ScOk (d6D l ns w).2.1 sc':=by
 intro l
 induction l with
 |nil=>intro pu se ns sc sc' w _ h _ _ _ _ _ he;rw[inV] at he;injection he with he;rw[d6D,←he];exact h
 |cons d r ih =>
  intro pu se ns sc sc' w hl h he hpu hse h1 h2 hi
  obtain⟨t1,t2⟩:=f3M (hl d (by simp))
  have hm2:1≤f2K d.ty.len∧f2K d.ty.len≤64:=by unfold f2K;split <;> omega
  rw[d8L] at he ⊢
  by_cases c:(d5V d.name ⟨d.ty,false,0,0⟩ ns w).1≠0
  ·rw[if_pos c] at he;exact absurd he c
  rw[if_neg c] at he ⊢
  have c':(d5V d.name ⟨d.ty,false,0,0⟩ ns w).1=0:=by simpa using c
  have hn:=f3I c'
  rw[d7X c'] at he ⊢
  rw[inV] at hi
  simp only at hi he ⊢
  by_cases hr:inR ((if d.pub then pu else se).take (f2K d.ty.len).toNat) d.ty=false
  ·rw[if_pos hr] at hi;cases hi
  rw[if_neg hr] at hi
  rw[f3W] at h1 h2
  have mem:∀ (q:List Int) (k:Nat),(∀ x,x∈q→0≤x)→∀ x,x∈q.drop k→0≤x:=fun q k hq x hx=>hq x (g4Z hx)
  have memt:∀ (q:List Int) (k:Nat),(∀ x,x∈q→0≤x)→∀ x,x∈q.take k→0≤x:=fun q k hq x hx=>hq x (List.mem_of_mem_take hx)
  cases hp:d.pub with
  |true =>
   rw[hp] at hi h1 h2
   simp only[if_true] at hi h1
   rw[if_neg (by simp)] at h2
   refine ih _ _ _ _ _ _ (fun x hx=>hl x (by simp [hx])) (h.new hn (s:=⟨d.ty,false,0,0⟩) (v:=⟨pu.take (f2K d.ty.len).toNat,decide (d.ty.len≠0),0⟩) ⟨t1,by show d.ty.len≤140737488355328;omega,?_,memt _ _ hpu⟩ (fun h=>by cases h)) he (mem _ _ hpu) hse (by rw[g4K];omega) (by omega) hi
   show(((pu.take _).length:Nat):Int)=_
   rw[g4N,Nat.min_eq_left (by omega)]
   show(((f2K d.ty.len).toNat:Nat):Int)=f2K d.ty.len
   omega
  |false =>
   rw[hp] at hi h1 h2
   simp only[g3D,if_false,if_true] at hi h2
   rw[if_neg (by simp)] at h1
   refine ih _ _ _ _ _ _ (fun x hx=>hl x (by simp [hx])) (h.new hn (s:=⟨d.ty,false,0,0⟩) (v:=⟨se.take (f2K d.ty.len).toNat,decide (d.ty.len≠0),0⟩) ⟨t1,by show d.ty.len≤140737488355328;omega,?_,memt _ _ hse⟩ (fun h=>by cases h)) he hpu (mem _ _ hse) (by omega) (by rw[g4K];omega) hi
   show(((se.take _).length:Nat):Int)=_
   rw[g4N,Nat.min_eq_left (by omega)]
   show(((f2K d.ty.len).toNat:Nat):Int)=f2K d.ty.len
   omega
end Go.Ky

/- KX 74: PLAIN LAW of SemanticsSwap: two asserts at the end change places. No program in sight. -/
namespace Go.Ky
open Go.Pi Go.Lx
theorem f4A:∀ (l:List Pa) (ns:Ns) (w:Int),(d6A l ns w).2.2=w:=by
 intro l
 induction l with
 |nil=>intro ns w;rw[d6A]
 |cons p r ih =>
  intro ns w
  rw[d8J]
  split
  ·exact e0H _ _ _ _
  ·rw[ih,e0H]
theorem f4B:∀ (l:List De) (ns:Ns) (w:Int),w≤(d6D l ns w).2.2:=by
 intro l
 induction l with
 |nil=>intro ns w;rw[d6D];exact Int.le_refl _
 |cons p r ih =>
  intro ns w
  rw[d8L]
  split
  ·rw[e0H];exact Int.le_refl _
  ·rw[e0H];exact Int.le_trans (e0I _ _) (ih _ _)
theorem f4C (fs:Fs) (f:Fu) (w:Int):w≤(d6B fs f w).2.2:=by
 cases hl:look f.name fs with
 |some x=>rw[d8O _ _ _ hl];exact Int.le_refl _
 |none =>
  rw[d8N _ _ _ hl]
  have h1:=f4A f.params [] w
  have h2:=e0J fs f.body (fun s _=>e0K fs s) (d6A f.params [] w).2.1 (d6A f.params [] w).2.2
  have h3:=e0G fs (d5X fs f.body (d6A f.params [] w).2.1 (d6A f.params [] w).2.2).2.1 f.ret (d5X fs f.body (d6A f.params [] w).2.1 (d6A f.params [] w).2.2).2.2
  rw[h1] at h2 h3
  split
  ·rw[h1];exact Int.le_refl _
  ·split
   ·rw[h1];exact h2
   ·split
    ·rw[h1];exact Int.le_trans h2 h3
    ·split
     ·rw[h1];exact Int.le_trans h2 h3
     ·rw[h1];exact Int.le_trans h2 h3
theorem f4D:∀ (l:List Fu) (fs:Fs) (w:Int),w≤(d6C l fs w).2.2:=by
 intro l
 induction l with
 |nil=>intro fs w;rw[d6C];exact Int.le_refl _
 |cons f r ih =>
  intro fs w
  rw[d8P]
  have h:=f4C fs f w
  split
  ·exact h
  ·exact Int.le_trans h (ih _ _)
theorem f4E {p:Pg} {l:List St} {a b:Exp} (h:(d6N (wb p (l++[asr a,asr b]))).2.2=0):(d6N (wb p (l++[asr b,asr a]))).2.2=0∧(d6N (wb p (l++[asr b,asr a]))).1=(d6N (wb p (l++[asr a,asr b]))).1:=by
 obtain⟨h1,h2,h3⟩:=exam_ok.1 h
 obtain⟨v1,v2,v3,v4,v5⟩:=valid_zero.1 h1
 obtain⟨g1,g2,g3⟩:=prog_ok.1 h2
 replace v3:(l++[asr a,asr b]).all stB=true:=v3
 replace v5:(l++[asr a,asr b]).all shS=true:=v5
 have v3':(l++[asr b,asr a]).all stB=true:=by
  simp only[List.all_append,List.all_cons,List.all_nil,Bool.and_true,g3C] at v3 ⊢
  exact⟨v3.1,v3.2.2,v3.2.1⟩
 have v5':(l++[asr b,asr a]).all shS=true:=by
  simp only[List.all_append,List.all_cons,List.all_nil,Bool.and_true,g3C] at v5 ⊢
  exact⟨v5.1,v5.2.2,v5.2.1⟩
 have w1:d5E (wb p (l++[asr b,asr a]))=0:=valid_zero.2 ⟨v1,v2,v3',v4,v5'⟩
 have hw:0≤(d6D p.decls [] (d6C p.funcs [] 0).2.2).2.2:=Int.le_trans (f4D p.funcs [] 0) (f4B _ _ _)
 replace g3:(d5X (d6C p.funcs [] 0).2.1 (l++[asr a,asr b]) (d6D p.decls [] (d6C p.funcs [] 0).2.2).2.1 (d6D p.decls [] (d6C p.funcs [] 0).2.2).2.2).1=0:=g3
 have key:d5X (d6C p.funcs [] 0).2.1 (l++[asr b,asr a]) (d6D p.decls [] (d6C p.funcs [] 0).2.2).2.1 (d6D p.decls [] (d6C p.funcs [] 0).2.2).2.2=d5X (d6C p.funcs [] 0).2.1 (l++[asr a,asr b]) (d6D p.decls [] (d6C p.funcs [] 0).2.2).2.1 (d6D p.decls [] (d6C p.funcs [] 0).2.2).2.2:=by
  have hg:=e0J (d6C p.funcs [] 0).2.1 l (fun s _=>e0K _ s) (d6D p.decls [] (d6C p.funcs [] 0).2.2).2.1 (d6D p.decls [] (d6C p.funcs [] 0).2.2).2.2
  rw[e0L] at g3
  rw[e0L,e0L]
  split
  ·rfl
  ·rename_i c
   rw[if_neg c] at g3
   exact((f1X (d6C p.funcs [] 0).2.1 a b _ (Int.le_trans hw hg)).2 g3).1.symm
 have w2:(d6E (wb p (l++[asr b,asr a]))).1=0:=prog_ok.2 ⟨g1,g2,(congrArg (·.1) key).trans g3⟩
 have hlk:=d9H (p:=wb p (l++[asr a,asr b])) v1 v3 h2
 have hks:KsB (d6L p.funcs []):=e0O p.funcs [] hlk.1 KsB.nil
 have hst:d6M (wb p (l++[asr b,asr a]))=d6M (wb p (l++[asr a,asr b])):=by
  show d6I (d6L p.funcs []) (l++[asr b,asr a]) 0=d6I (d6L p.funcs []) (l++[asr a,asr b]) 0
  rw[e0M,e0M]
  have e1:∀ e,bsS (d6L p.funcs []) (asr e)=1+csE (d6L p.funcs []) e:=fun e=>by
   rw[d6J,if_neg (by show ¬(2:Int)=3;decide)];rfl
  have ha:=d8Y hks a
  have hb:=d8Y hks b
  simp only[d6I,e1]
  unfold mn
  split <;> split <;> split <;> split <;> omega
 have w3:(d6N (wb p (l++[asr b,asr a]))).2.2=0:=exam_ok.2 ⟨w1,w2,by rw[hst];exact h3⟩
 refine⟨w3,?_⟩
 rw[e0P h,e0P w3]
 show(d6E (wb p (l++[asr b,asr a]))).2=(d6E (wb p (l++[asr a,asr b]))).2
 rw[e0Q w2,e0Q h2]
 exact congrArg (·.2.2) key
theorem f4F {p:Pg} {l:List St} {a b:Exp} (h:(d6N (wb p (l++[asr a,asr b]))).2.2=0):(d6N (wb p (l++[asr a]))).2.2=0∧(d6N (wb p (l++[asr a]))).1≤(d6N (wb p (l++[asr a,asr b]))).1:=by
 have e:(wb p (l++[asr a,asr b])).body.take (l.length+1)=l++[asr a]:=by
  show(l++[asr a,asr b]).take (l.length+1)=l++[asr a]
  rw[List.take_append,List.take_of_length_le (by omega)]
  simp
 have:=e0S (l.length+1) h
 rw[e] at this
 exact⟨this.1,this.2.2.1⟩
theorem exmV_zero {p:Pg} {k:Int} {kn:Bool}:f2O p k kn=0↔(d6N p).2.2=0∧kn=true∧k > 2 ^ (d6N p).1.toNat:=by
 unfold f2O
 by_cases h:(d6N p).2.2=0
 ·rw[if_neg (by simpa using h)]
  by_cases h2:kn=true∧k > 2 ^ (d6N p).1.toNat
  ·rw[if_pos h2];exact⟨fun _=>⟨h,h2⟩,fun _=>rfl⟩
  ·rw[if_neg h2];exact⟨fun e=>absurd e (by decide),fun e=>absurd e.2 h2⟩
 ·rw[if_pos (by simpa using h)]
  exact⟨fun e=>absurd e h,fun e=>absurd e.1 h⟩
theorem f4G (O:Ops) (Φ:Fi) (a:Exp) (sc:Sc):∃ A,stV O Φ (asr a) sc false=(sc,A):=by
 refine⟨(evV O Φ sc a false).2 || decide (fst (evV O Φ sc a false).1=0),?_⟩
 rw[f2I,if_neg (by show ¬(2:Int)=1;decide),if_pos (show(asr a).kind=2 from rfl)]
 rfl
theorem f4H (O:Ops) (Φ:Fi) (l:List St) (a b:Exp) (sc:Sc):∃ P A B:Bool,(f2H O Φ (l++[asr a,asr b]) sc false).2=(P || A || B)∧(f2H O Φ (l++[asr b,asr a]) sc false).2=(P || B || A)∧(f2H O Φ (l++[asr a]) sc false).2=(P || A)∧(f2H O Φ (l++[asr b]) sc false).2=(P || B):=by
 rw[f2R,f2R,f2R,f2R]
 obtain⟨A,hA⟩:=f4G O Φ a (f2H O Φ l sc false).1
 obtain⟨B,hB⟩:=f4G O Φ b (f2H O Φ l sc false).1
 refine⟨(f2H O Φ l sc false).2,A,B,?_⟩
 cases (f2H O Φ l sc false).2 with
 |true=>simp only[f3K];simp
 |false =>
  simp only[f2H,g3D,if_false,hA,hB]
  cases A <;> cases B <;> simp [hA,hB]
theorem f4I (O:Ops) (p:Pg) (l:List St) (pu se:List Int):f2N O (wb p l) pu se=match inV p.decls pu se [] with
 |none=>false
 |some sc=>!(f2H O (f2M O p.funcs fi0) l sc false).2:=rfl
theorem f4J {O:Ops} {p:Pg} {k:Int} {kn:Bool} {pu se:List Int} (h:(f2P O p k kn pu se).2=0):f2O p k kn=0∧f2P O p k kn pu se=(f2N O p pu se,0)∧((pu.length:Int)=(d9P p).1∧(se.length:Int)=(d9P p).2∧pu.all (fun n=>decide (n < k))=true∧se.all (fun n=>decide (n < k))=true):=by
 unfold f2P at h ⊢
 by_cases c1:f2O p k kn≠0
 ·rw[if_pos c1] at h;exact absurd h c1
 rw[if_neg c1] at h ⊢
 by_cases c2:(pu.length:Int)≠(d9P p).1∨(se.length:Int)≠(d9P p).2∨pu.all (fun n=>decide (n < k))=false∨se.all (fun n=>decide (n < k))=false
 ·rw[if_pos c2] at h;cases h
 rw[if_neg c2]
 refine⟨by simpa using c1,rfl,?_⟩
 refine⟨g3I fun e=>c2 (.inl e),g3I fun e=>c2 (.inr (.inl e)),?_,?_⟩
 ·cases e:pu.all (fun n=>decide (n < k)) with
  |true=>rfl
  |false=>exact absurd (.inr (.inr (.inl e))) c2
 ·cases e:se.all (fun n=>decide (n < k)) with
  |true=>rfl
  |false=>exact absurd (.inr (.inr (.inr e))) c2
theorem f4K {O:Ops} {p:Pg} {k:Int} {kn:Bool} {pu se:List Int} (h:f2O p k kn=0) (hi:(pu.length:Int)=(d9P p).1∧(se.length:Int)=(d9P p).2∧pu.all (fun n=>decide (n < k))=true∧se.all (fun n=>decide (n < k))=true):f2P O p k kn pu se=(f2N O p pu se,0):=by
 unfold f2P
 rw[if_neg (by simpa using h),if_neg]
 rintro(e|e|e|e)
 ·exact e hi.1
 ·exact e hi.2.1
 ·rw[hi.2.2.1] at e;cases e
 ·rw[hi.2.2.2] at e;cases e
theorem f4L {p:Pg} {l:List St} {a b:Exp} {k:Int} {kn:Bool} (h:f2O (wb p (l++[asr a,asr b])) k kn=0):f2O (wb p (l++[asr b,asr a])) k kn=0∧d9P (wb p (l++[asr b,asr a]))=d9P (wb p (l++[asr a,asr b]))∧f2O (wb p (l++[asr a])) k kn=0∧d9P (wb p (l++[asr a]))=d9P (wb p (l++[asr a,asr b])):=by
 obtain⟨h1,h2,h3⟩:=exmV_zero.1 h
 obtain⟨s1,s2⟩:=f4E h1
 obtain⟨f1,f2⟩:=f4F h1
 refine⟨exmV_zero.2 ⟨s1,h2,by rw[s2];exact h3⟩,e0R (p:=wb p (l++[asr a,asr b])) (l:=l++[asr b,asr a]) h1 s1,exmV_zero.2 ⟨f1,h2,?_⟩,e0R (p:=wb p (l++[asr a,asr b])) (l:=l++[asr a]) h1 f1⟩
 have hle:(2:Nat) ^ (d6N (wb p (l++[asr a]))).1.toNat≤2 ^ (d6N (wb p (l++[asr a,asr b]))).1.toNat:=Nat.pow_le_pow_right (by decide) (by omega)
 have e:∀ n:Nat,(2:Int) ^ n=((2 ^ n:Nat):Int):=fun n=>by push_cast;rfl
 rw[e] at h3 ⊢
 omega
theorem f4M {O:Ops} {p:Pg} {l:List St} {a b:Exp} {k:Int} {kn:Bool} {pu se:List Int} (h:(f2P O (wb p (l++[asr a,asr b])) k kn pu se).2=0):(f2P O (wb p (l++[asr b,asr a])) k kn pu se).2=0∧f2P O (wb p (l++[asr a])) k kn pu se=(f2N O (wb p (l++[asr a])) pu se,0):=by
 obtain⟨h1,h2,h3⟩:=f4J h
 obtain⟨s1,s2,s3,s4⟩:=f4L h1
 refine⟨?_,f4K s3 (by rw[s4];exact h3)⟩
 rw[f4K s1 (by rw[s2];exact h3)]
theorem f4N (O:Ops) (p:Pg) (l:List St) (a b:Exp) (k:Int) (kn:Bool) (pu se:List Int) :
  if (f2P O (wb p (l++[asr a,asr b])) k kn pu se).2≠0∨(f2P O (wb p (l++[asr b,asr a])) k kn pu se).2≠0
  then (f2P O (wb p (l++[asr a,asr b])) k kn pu se).1=false∧(f2P O (wb p (l++[asr b,asr a])) k kn pu se).1=false∧((f2P O (wb p (l++[asr a,asr b])) k kn pu se).2=0↔(f2P O (wb p (l++[asr b,asr a])) k kn pu se).2=0)
  else (f2P O (wb p (l++[asr a,asr b])) k kn pu se).1=(f2P O (wb p (l++[asr b,asr a])) k kn pu se).1∧(f2P O (wb p (l++[asr a,asr b])) k kn pu se).1=((f2P O (wb p (l++[asr a])) k kn pu se).1&&(f2P O (wb p (l++[asr b])) k kn pu se).1):=by
 have hiff:(f2P O (wb p (l++[asr a,asr b])) k kn pu se).2=0↔(f2P O (wb p (l++[asr b,asr a])) k kn pu se).2=0:=⟨fun h=>(f4M h).1,fun h=>(f4M h).1⟩
 have hF:∀ q:Pg,(f2P O q k kn pu se).2≠0→(f2P O q k kn pu se).1=false:=by
  intro q hq
  unfold f2P at hq ⊢
  by_cases c1:f2O q k kn≠0
  ·rw[if_pos c1]
  ·rw[if_neg c1] at hq ⊢
   split at hq
   ·rename_i c2;rw[if_pos c2]
   ·exact absurd rfl hq
 split
 ·rename_i h
  have h1:(f2P O (wb p (l++[asr a,asr b])) k kn pu se).2≠0:=by
   rcases h with h|h
   ·exact h
   ·exact fun e=>h (hiff.1 e)
  have h2:(f2P O (wb p (l++[asr b,asr a])) k kn pu se).2≠0:=fun e=>h1 (hiff.2 e)
  exact⟨hF _ h1,hF _ h2,hiff⟩
 ·rename_i h
  have h1:(f2P O (wb p (l++[asr a,asr b])) k kn pu se).2=0:=g3I fun e=>h (.inl e)
  have h2:=hiff.1 h1
  rw[(f4M h1).2,(f4M h2).2,(f4J h1).2.1,(f4J h2).2.1]
  simp only
  rw[f4I,f4I,f4I,f4I]
  cases inV p.decls pu se [] with
  |none=>simp
  |some sc =>
   obtain⟨P,A,B,e1,e2,e3,e4⟩:=f4H O (f2M O p.funcs fi0) l a b sc
   simp only[e1,e2,e3,e4]
   cases P <;> cases A <;> cases B <;> simp
end Go.Ky

/- KX 75: values as trees. No program in sight. -/
namespace Go.Ky
open Go.Pi Go.Lx
abbrev uL (l:List Int):List (List T):=l.map fun n=>[.int .u64 n]
abbrev tV (v:Vl):List T:=[.sl false (uL v.els),.bool v.arr,.int .i64 v.num]
theorem f4O (l:List Int) (i:Nat):(uL l)[i]?=l[i]?.map fun n=>[.int .u64 n]:=by unfold uL;rw[g4B]
theorem f4P (l:List Int):(uL l).length=l.length:=by unfold uL;rw[g4L]
theorem f4Q (n:Int) (l:List Int) (t:Ty):inR (n::l) t=(!(decide (t.kind=2)&&decide (n > 1) || decide (t.kind=3)&&decide (n / 2 ^ t.bits.toNat≠0))&&inR l t):=by
 unfold inR;rw[List.all_cons]
theorem f4R {v:Vl} (h:0 < v.els.length):v.els[0]?=some (fst v):=by
 unfold fst
 rw[List.getD_eq_getElem?_getD,g3Y h];rfl
theorem f4S {l:List Int} {i:Nat} {x:Int} {r:List Int} (h:l.drop i=x::r):l[i]?=some x∧l.drop (i+1)=r∧i < l.length:=by
 have hi:i < l.length:=by
  rcases g5N i l.length with h'|h'
  ·exact h'
  ·rw[List.drop_eq_nil_of_le h'] at h;cases h
 rw[List.drop_eq_getElem_cons hi] at h
 injection h with h1 h2
 exact⟨by rw[g3Y hi,h1],h2,hi⟩
end Go.Ky

/- KX 76: a slice of numbers that is filled. No program in sight. -/
namespace Go.Ky
open Go.Pi Go.Lx
abbrev pU (n:Int):PV:=.t (.int .u64 n)
def f4T (l:List Int) (i:Nat):List PV:=(l.take i).map pU++List.replicate (l.length - i) (pU 0)
theorem f4U (l:List Int):f4T l 0=List.replicate l.length (pU 0):=by simp [f4T]
theorem f4V (l:List Int):f4T l l.length=l.map pU:=by simp [f4T]
theorem f4W {l:List Int} {i:Nat} (h:i≤l.length):(f4T l i).length=l.length:=by
 unfold f4T
 rw[g4I,g4L,g4N,List.length_replicate,Nat.min_eq_left h]
 omega
theorem f4X {l:List Int} {i:Nat} {x:Int} (h:l[i]?=some x):(f4T l i).set i (pU x)=f4T l (i+1):=by
 have hi:=(g4A.1 h).1
 have hx:=(g4A.1 h).2
 have hl:((l.take i).map pU).length=i:=by rw[g4L,g4N,Nat.min_eq_left (by omega)]
 unfold f4T
 rw[List.set_append_right _ _ (by omega),hl,Nat.sub_self]
 obtain⟨k,hk⟩:∃ k,l.length - i=k+1:=⟨l.length - i - 1,by omega⟩
 rw[hk,List.replicate_succ,List.set_cons_zero,show l.length - (i+1)=k by omega,List.take_add_one,g4Q]
 rw[h]
 simp
theorem f4Y (n:Nat):(List.replicate n [T.int .u64 0]).flatten.map PV.t=List.replicate n (pU 0):=by
 induction n with
 |zero=>rfl
 |succ n ih=>rw[List.replicate_succ,g3S,g4Q,ih,List.replicate_succ];rfl
theorem f4Z (l:List Int):allT (l.map pU)=some (l.map fun n=>T.int .u64 n):=by
 induction l with
 |nil=>rfl
 |cons a r ih=>rw[g4R,allT,ih];rfl
theorem f5A (l:List Int):a0C 1 l.length (l.map fun n=>T.int .u64 n)=uL l:=by
 induction l with
 |nil=>rfl
 |cons a r ih=>rw[g4J,g4R,a0C];simp only[List.take_succ_cons,List.take_zero,List.drop_succ_cons,List.drop_zero];rw[ih];rfl
theorem f5B {sg:Sg} {l:List Int} (h:sg[0]?=some (false,l.map pU)):a0L sg 1 (.ls 0 0 l.length 1)=some (uL l):=by
 have hag:(l.map fun n=>T.int .u64 n).any T.isAgg=false:=by
  rw[List.any_eq_false]
  intro x hx
  obtain⟨n,_,rfl⟩:=List.mem_map.1 hx
  simp [T.isAgg]
 simp only[a0L,a0K,h,if_true,g5Q,g5P,g4L,g5K,List.drop_zero]
 rw[List.take_of_length_le (by simp),f4Z]
 simp only[hag,f5A]
 rfl
def elV (vs:List Vl):PV:=if vs=[] then .own 0 1 [] else .t (.sl false (uL (vs.map fst)))
end Go.Ky

/- KX 77: a map's entries, one put over an older one. No program in sight. -/
namespace Go.Ky
open Go.Pi Go.Lx
theorem f5C {α:Type} (enc:α→T) (k:Nm) (v:α) (l:List (Nm×α)):a1B 2 (.str k) (enc v) (d6Q enc l)=d6Q enc (f1Z k v l):=by
 induction l with
 |nil=>rfl
 |cons p r ih =>
  obtain⟨j,x⟩:=p
  show a1B 2 (.str k) (enc v) (.tup [.t (.str j),.t (enc x)]::d6Q _ r)=_
  simp only[a1B,d6R,f1Z]
  by_cases h:k=j
  ·subst h;simp [d6Q]
  ·simp only[g5Y h,if_neg h,ih]
   simp [d6Q]
def f5D:List Fu→Fs→Fs
 |[],l=>l
 |f::r,l=>f5D r (f1Z f.name f l)
theorem f5E {α:Type} {k:Nm} {v:α}:∀ {l:List (Nm×α)},Ky.look k l=none→f1Z k v l=l++[(k,v)]
 |[],_=>rfl
 |(j,m)::r,h=>by
  simp only[Ky.look] at h
  split at h
  ·cases h
  ·rename_i hk
   rw[f1Z,if_neg hk,f5E h];rfl
theorem f5F:∀ (l:List Fu) (fs:Fs) (w:Int),(d6C l fs w).1=0→f5D l fs=(d6C l fs w).2.1:=by
 intro l
 induction l with
 |nil=>intro fs w _;rw[d6C,f5D]
 |cons f r ih =>
  intro fs w he
  rw[d8P] at he ⊢
  by_cases c:(d6B fs f w).1≠0
  ·rw[if_pos c] at he;exact absurd he c
  rw[if_neg c] at he ⊢
  obtain⟨h1,h2,_⟩:=f3R (show(d6B fs f w).1=0 by simpa using c)
  rw[h2] at he ⊢
  rw[f5D,f5E h1]
  exact ih _ _ he
end Go.Ky

/- KX 78: a slice of values that is filled. No program in sight. -/
namespace Go.Ky
open Go.Pi Go.Lx
abbrev zV:List T:=[.sl true [],.bool false,.int .i64 0]
abbrev c3 (v:Vl):List PV:=[.t (.sl false (uL v.els)),.t (.bool v.arr),.t (.int .i64 v.num)]
def cV (vs:List Vl):List PV:=vs.flatMap c3
theorem f5G (vs:List Vl):(cV vs).length=vs.length * 3:=by
 induction vs with
 |nil=>rfl
 |cons v r ih =>
  unfold cV at *
  rw[List.flatMap_cons,g4I,ih]
  show 3+r.length * 3=(r.length+1) * 3
  omega
theorem f5H (a b:List Vl):cV (a++b)=cV a++cV b:=by unfold cV;rw[List.flatMap_append]
def zs3 (k:Nat):List PV:=(List.replicate k zV).flatten.map PV.t
theorem f5I (k:Nat):zs3 (k+1)=.t (.sl true [])::.t (.bool false)::.t (.int .i64 0)::zs3 k:=by
 unfold zs3
 rw[List.replicate_succ,g3S,g4Q];rfl
theorem f5J (k:Nat):(zs3 k).length=k * 3:=by
 induction k with
 |zero=>rfl
 |succ k ih=>rw[f5I];simp only[g4J,ih];omega
def f5K (done:List Vl) (n:Nat):List PV:=cV done++zs3 (n - done.length)
theorem f5L (n:Nat):f5K [] n=(List.replicate n zV).flatten.map PV.t:=by unfold f5K zs3;simp [cV]
theorem f5M {done:List Vl} {n:Nat} (h:done.length=n):f5K done n=cV done:=by unfold f5K;rw[h,Nat.sub_self];simp [zs3]
theorem f5N {done:List Vl} {n:Nat} (h:done.length≤n):(f5K done n).length=n * 3:=by
 unfold f5K
 rw[g4I,f5G,f5J]
 omega
theorem f5O {done:List Vl} {n:Nat} (h:done.length < n) (x:Vl):setRange (f5K done n) (done.length * 3) (c3 x)=f5K (done++[x]) n:=by
 obtain⟨k,hk⟩:∃ k,n - done.length=k+1:=⟨n - done.length - 1,by omega⟩
 have hl:=f5G done
 have e:f5K (done++[x]) n=cV done++c3 x++zs3 k:=by
  unfold f5K
  rw[f5H,g4I,show n - (done.length+[x].length)=k by simp;omega]
  rfl
 rw[e]
 unfold f5K
 rw[hk,f5I]
 simp only[setRange]
 rw[List.set_append_right _ _ (by omega),hl,Nat.sub_self,List.set_cons_zero,List.set_append_right _ _ (by omega),hl,show done.length * 3+1 - done.length * 3=1 by omega,List.set_cons_succ,List.set_cons_zero,
  List.set_append_right _ _ (by omega),hl,show done.length * 3+1+1 - done.length * 3=2 by omega,List.set_cons_succ,List.set_cons_succ,List.set_cons_zero]
 simp
theorem f5P:∀ (vs:List Vl) (i:Nat) (v:Vl),vs[i]?=some v→(cV vs)[i * 3]?=some (.t (.sl false (uL v.els)))∧(cV vs)[i * 3+1]?=some (.t (.bool v.arr))∧(cV vs)[i * 3+2]?=some (.t (.int .i64 v.num))
 |[],i,v,h=>by simp at h
 |x::r,0,v,h=>by
  have:x=v:=by simpa using h
  subst this
  exact⟨rfl,rfl,rfl⟩
 |x::r,i+1,v,h=>by
  obtain⟨h1,h2,h3⟩:=f5P r i v (by simpa using h)
  have e:cV (x::r)=.t (.sl false (uL x.els))::.t (.bool x.arr)::.t (.int .i64 x.num)::cV r:=rfl
  rw[e,show(i+1) * 3=i * 3+1+1+1 by omega]
  simp only[g3W]
  exact⟨h1,h2,h3⟩
theorem f5Q (vs:List Vl):a0C 3 vs.length (vs.flatMap fun v=>tV v)=vs.map fun v=>tV v:=by
 induction vs with
 |nil=>rfl
 |cons x r ih =>
  rw[g4J,List.flatMap_cons,a0C]
  show(_::a0C 3 r.length (r.flatMap fun v=>tV v))=_
  rw[ih];rfl
theorem f5R (vs:List Vl):(cV vs).mapM a0M=some (vs.flatMap fun v=>tV v):=by
 induction vs with
 |nil=>rfl
 |cons x r ih =>
  show(PV.t (.sl false (uL x.els))::.t (.bool x.arr)::.t (.int .i64 x.num)::cV r).mapM a0M=_
  simp only[g4O,ih]
  rfl
theorem f5S {sg:Sg} {a:Nat} {vs:List Vl} (h:sg[a]?=some (false,cV vs)) (h0:vs≠[]):a1J sg a 0 vs.length 3=some (vs.map fun v=>tV v):=by
 have hl:0 < vs.length:=List.length_pos_iff.2 h0
 unfold a1J
 rw[h]
 simp only[f5G,g5Q,List.drop_zero]
 rw[if_pos ⟨by omega,by omega,by omega⟩,List.take_of_length_le (by rw[f5G];exact g5K _),f5R]
 simp only[g5V,f5Q]
end Go.Ky

/- KX 79: what the checker has said of a statement that is executed. No program in sight. -/
namespace Go.Ky
open Go.Pi Go.Lx
theorem f5T {fs:Fs} {s:St} {ns:Ns} {w:Int} (h3:s.kind≠3) (h:(stM fs s ns w).1=0):(exM fs ns s.ex w).1.2=0:=by
 rw[d8D h3] at h
 by_cases c:(exM fs ns s.ex w).1.2≠0
 ·rw[if_pos c] at h;exact absurd h c
 ·simpa using c
theorem f5U {fs:Fs} {s:St} {ns:Ns} {w:Int} (h3:s.kind≠3) (h2:s.kind≠2) (ht:s.typed=true) (hB:stB s=true) (h:(stM fs s ns w).1=0):(exM fs ns s.ex w).1.1.len=s.ty.len∧tyB s.ty=true:=by
 have h1:=f3O hB h3 h2
 have he:=f5T h3 h
 rw[d8D h3,if_neg (by simpa using he),if_neg h2,if_pos ht] at h
 refine⟨?_,?_⟩
 ·split at h
  ·cases h
  ·rename_i c
   by_cases c0:s.ty.len=0
   ·rw[c0]
    exact g3I fun e=>c (.inl ⟨c0,e⟩)
   ·refine f3N ?_
    cases hf:d5F (exM fs ns s.ex w).1.1 s.ty with
    |true=>rfl
    |false=>exact absurd (.inr ⟨c0,hf⟩) c
 ·rw[d4U,if_pos h1,ht] at hB
  simp only[g3C] at hB
  have:=hB.1.1.1.1.1
  simpa using this
theorem f5V {t:Ty} (h:tyB t=true):t.kind=3→0≤t.bits∧t.bits≤62:=by
 intro h3
 unfold tyB at h
 split at h
 ·cases h
 ·simp only[h3,g3C,g6B] at h
  simp at h
  omega
theorem f5W {fs:Fs} {s:St} {ns:Ns} {w:Int} (h3:s.kind=3) (hB:stB s=true) (he:(stM fs s ns w).1=0):Ky.look s.name ns=none∧0≤s.lo∧s.lo≤s.hi∧s.hi≤1000000∧(d5X fs s.body (ns++[(s.name,⟨fieldT,true,s.lo,s.hi⟩)]) w).1=0:=by
 have hlk:=d9E fs s hB ns w he
 rw[d8T,if_pos h3] at hlk
 simp only[g3C,g6B] at hlk
 obtain⟨⟨⟨l1,l2⟩,l3⟩,-⟩:=hlk
 rw[d8C h3] at he
 have cg:¬s.lo > s.hi:=by omega
 rw[if_neg cg] at he
 by_cases c1:(d5V s.name ⟨fieldT,true,s.lo,s.hi⟩ ns w).1≠0
 ·rw[if_pos c1] at he;exact absurd he c1
 rw[if_neg c1] at he
 have c1':(d5V s.name ⟨fieldT,true,s.lo,s.hi⟩ ns w).1=0:=by simpa using c1
 have hnew:=f3I c1'
 rw[d7X c1'] at he
 simp only at he
 by_cases c2:(d5X fs s.body (ns++[(s.name,⟨fieldT,true,s.lo,s.hi⟩)]) w).1≠0
 ·rw[if_pos c2] at he;exact absurd he c2
 exact⟨hnew,l1,by omega,l3,by simpa using c2⟩
theorem f5X {O:Ops} (hO:O.Nn) {Φ:Fi} {fs:Fs} (hΦ:FiOk fs Φ) {s:St} (h3:s.kind=3) (hx:StOk s) (hB:stB s=true) {ns:Ns} {w:Int} (he:(stM fs s ns w).1=0) {sc:Sc} {n:Int} (h:ScOk ns sc) (n1:s.lo≤n) (n2:n < s.hi) :
  ScOk (ns++[(s.name,⟨fieldT,true,s.lo,s.hi⟩)]) (f1Z s.name ⟨[O.red n],false,n⟩ sc)∧((f2H O Φ s.body (f1Z s.name ⟨[O.red n],false,n⟩ sc) false).2=false→ScOk ns (f2H O Φ s.body (f1Z s.name ⟨[O.red n],false,n⟩ sc) false).1):=by
 obtain⟨hnew,l1,l2,l3,hb⟩:=f5W h3 hB he
 have hp1:ScOk (ns++[(s.name,⟨fieldT,true,s.lo,s.hi⟩)]) (f1Z s.name ⟨[O.red n],false,n⟩ sc) :=
  h.new hnew (s:=⟨fieldT,true,s.lo,s.hi⟩) (v:=⟨[O.red n],false,n⟩) ⟨Int.le_refl _,(by decide:(0:Int)≤B47),rfl,fun x hx=>by
   have:x=O.red n:=by simpa using hx
   rw[this];exact hO.red _ (by omega)⟩ (fun _=>⟨l1,l3,n1,n2⟩)
 refine⟨hp1,fun hf=>?_⟩
 rcases f3L s.body (fun b hb'=>f3P hO hΦ b (d8I hx b hb') (d8G hB h3 b hb')) _ _ w hp1 hb with h|h
 ·rw[h] at hf;cases hf
 ·obtain⟨r,e,_⟩:=d8A fs s.body _ w hb
  rw[e,g3N] at h
  exact h.sub
theorem f5Y (O:Ops) (Φ:Fi) (s:St) (r:List St) (sc:Sc):f2H O Φ (s::r) sc false=f2H O Φ r (stV O Φ s sc false).1 (stV O Φ s sc false).2:=by
 rw[f2H,if_neg (show ¬(false=true) by decide)]
theorem f5Z {fs:Fs} {s:St} {r:List St} {ns:Ns} {w:Int} (h:(d5X fs (s::r) ns w).1=0):(stM fs s ns w).1=0∧(d5X fs r (stM fs s ns w).2.1 (stM fs s ns w).2.2).1=0:=by
 rw[d7Z] at h
 by_cases c:(stM fs s ns w).1≠0
 ·rw[if_pos c] at h;exact absurd h c
 ·rw[if_neg c] at h;exact⟨by simpa using c,h⟩
theorem f6A {vs:List Vl} {i:Nat} {v:Vl} (h:vs[i]?=some v):((cV vs).drop (i * 3)).take 3=c3 v:=by
 obtain⟨h1,h2,h3⟩:=f5P vs i v h
 apply List.ext_getElem?
 intro k
 rw[g4G,g3X]
 by_cases hk:k < 3
 ·rw[if_pos hk]
  match k,hk with
  |0,_=>exact h1
  |1,_=>exact h2
  |2,_=>exact h3
 ·rw[if_neg hk,g3Z (by show 3≤k;omega)]
theorem f6B:∀ (l:List Fu) (fs:Fs) (w:Int),(d6C l fs w).1=0→∀ nm f,Ky.look nm fs=some f→Ky.look nm (d6C l fs w).2.1=some f:=by
 intro l
 induction l with
 |nil=>intro fs w _ nm f h;rw[d6C];exact h
 |cons g r ih =>
  intro fs w he nm f h
  rw[d8P] at he ⊢
  by_cases c:(d6B fs g w).1≠0
  ·rw[if_pos c] at he;exact absurd he c
  rw[if_neg c] at he ⊢
  obtain⟨h1,h2,_⟩:=f3R (show(d6B fs g w).1=0 by simpa using c)
  refine ih _ _ he nm f ?_
  rw[h2,d6W,h]
theorem Fr2.of' {c a:Nat} {x y:Sg} (h:Fr a x y):Fr2 c a x y:=⟨h.1,fun i hi _ ha=>h.2 i hi ha⟩
end Go.Ky

/- KX 80: slices of numbers, the inputs of a run, rounds of loops. No program in sight. -/
namespace Go.Ky
open Go.Pi Go.Lx
theorem sz_u (l:List Int):a0R 1 (uL l)=true:=by cases l <;> rfl
theorem f6C (l:List Int) (k:Nat) (hk:k≤l.length):a0S 1 (.t (.sl false (uL l))) none (some (.t (.int .i64 (k:Int)))) none=some (.t (.sl false (uL (l.take k)))):=by
 have h0:(0:Int)≤(k:Int):=by omega
 have e:((uL l).take k).drop 0=uL (l.take k):=by rw[List.drop_zero];unfold uL;rw[List.map_take]
 simp only[a0S,elems,bound,if_pos h0,g3K,e,sz_u,f4P]
 rw[if_pos ⟨g5R _,hk,g5K _,trivial⟩]
theorem f6D (l:List Int) (k:Nat) (hk:k≤l.length):a0S 1 (.t (.sl false (uL l))) (some (.t (.int .i64 (k:Int)))) none none=some (.t (.sl false (uL (l.drop k)))):=by
 have h0:(0:Int)≤(k:Int):=by omega
 have e:((uL l).take l.length).drop k=uL (l.drop k):=by rw[List.take_of_length_le (by rw[f4P];exact g5K _)];unfold uL;rw[List.map_drop]
 simp only[a0S,elems,bound,if_pos h0,g3K,e,sz_u,f4P]
 rw[if_pos ⟨hk,g5K _,g5K _,trivial⟩]
theorem f6E (d:De) (r:List De) (pu se:List Int) (sc:Sc):inV (d::r) pu se sc=if inR ((if d.pub then pu else se).take (f2K d.ty.len).toNat) d.ty=false then none
  else inV r (if d.pub then pu.drop (f2K d.ty.len).toNat else pu) (if d.pub then se else se.drop (f2K d.ty.len).toNat) (f1Z d.name ⟨(if d.pub then pu else se).take (f2K d.ty.len).toNat,decide (d.ty.len≠0),0⟩ sc):=by rw[inV]
theorem f6F {b:Int} (h0:0≤b) (h1:b≤63):IntKind.u64.wrap (1 * 2 ^ min b.toNat IntKind.u64.bits)=2 ^ b.toNat:=by
 have hm:min b.toNat IntKind.u64.bits=b.toNat:=by
  have:IntKind.u64.bits=64:=rfl
  omega
 rw[hm,Int.one_mul]
 have h2:(2:Nat) ^ b.toNat≤9223372036854775808:=Nat.pow_le_pow_right (n:=2) (by decide) (show b.toNat≤63 by omega)
 have e:(2:Int) ^ b.toNat=((2 ^ b.toNat:Nat):Int):=by push_cast;rfl
 rw[e]
 generalize (2:Nat) ^ b.toNat=x at *
 exact IntWalk.u64_in _ (by omega)
def tmV (lo hi:Int):Int:=if IntKind.u64.wrap (IntKind.u64.wrap hi - IntKind.u64.wrap lo) > 1000000 then 1000000 else IntKind.u64.wrap (IntKind.u64.wrap hi - IntKind.u64.wrap lo)
def mn6 (x:Int):Int:=if 1000000 < x then 1000000 else x
mutual
def rd1:St→Int→Int
 |.mk k _ _ _ _ lo hi _ l,n=>if k≠3∨hi≤lo then n else mn6 (IntKind.i64.wrap (n+IntKind.i64.wrap (IntKind.i64.wrap (tmV lo hi) * IntKind.i64.wrap (1+rdM l 0))))
def rdM:List St→Int→Int
 |[],n=>n
 |s::r,n=>rdM r (rd1 s n)
end
theorem f6G (s:St) (n:Int):rd1 s n=if s.kind≠3∨s.hi≤s.lo then n else mn6 (IntKind.i64.wrap (n+IntKind.i64.wrap (IntKind.i64.wrap (tmV s.lo s.hi) * IntKind.i64.wrap (1+rdM s.body 0)))):=by
 cases s;rw[rd1];rfl
theorem f6H (s:St) (r:List St) (n:Int):rdM (s::r) n=rdM r (rd1 s n):=by rw[rdM]
def rdG:List Fu→Int→Int
 |[],n=>n
 |f::r,n=>rdG r (if rdM f.body 0 > n then rdM f.body 0 else n)
def rdP (p:Pg):Int:=rdG p.funcs (rdM p.body 0)
end Go.Ky

/- KX 81: slices that are put together. No program in sight. -/
namespace Go.Ky
open Go.Pi Go.Lx
theorem f6I (dr:Bool) (sg:Sg) (ow:Ow) (nl:Bool) (l:List Int) (h:l.length≤B20) (hne:l≠[]):a0V dr sg ow 1 8 (.lit []) (.t (.sl nl (uL l)))=some (.own ow.length 1 (uL l),ow++[l.length]):=by
 cases l with
 |nil=>exact absurd rfl hne
 |cons x r =>
  have hr:a0N (x::r).length 8=true:=by
   have hb:B20=1100000:=rfl
   unfold a0N;simp only[g6B];omega
  have ha:(uL (x::r)).all (fun x=>x.length == 1)=true:=by
   unfold uL
   rw[List.all_map]
   exact g3L.2 fun x _=>rfl
  have hl:=f4P (x::r)
  show a0V dr sg ow 1 8 (.lit []) (.t (.sl nl ([T.int .u64 x]::uL r)))=some (.own ow.length 1 ([T.int .u64 x]::uL r),_)
  replace ha:([T.int .u64 x]::uL r).all (fun x=>x.length == 1)=true:=ha
  replace hl:([T.int .u64 x]::uL r).length=(x::r).length:=hl
  unfold a0V
  simp only[a0L,elems]
  rw[if_pos ⟨ha,by decide⟩]
  simp only[g4M,g5Q,hl,hr,List.all_nil,g5C,g5X,if_true]
theorem f6J (dr:Bool) (sg:Sg) (ow:Ow) (k:Nat) (nl:Bool) (l m:List St) (hk:ow[k]?=some l.length) (h:l.length+m.length≤B20) (hm:m≠[]):a0V dr sg ow 13 152 (.own k 13 (d3G l)) (.t (.sl nl (d3G m)))=some (.own k 13 (d3G (l++m)),ow.set k (l.length+m.length)):=by
 cases m with
 |nil=>exact absurd rfl hm
 |cons x r =>
  have hr:=e0U (n:=l.length+(x::r).length) (by omega)
  have hl:=d3J l
  have hl2:=d3J (x::r)
  have ha:=e0T (x::r)
  have he:d3G l++d3G (x::r)=d3G (l++x::r):=by rw[d3H,d3H,d3H,g4Q]
  show a0V dr sg ow 13 152 (.own k 13 (d3G l)) (.t (.sl nl (tSt x::d3G r)))=_
  replace ha:(tSt x::d3G r).all (fun x=>x.length == 13)=true:=ha
  replace hl2:(tSt x::d3G r).length=(x::r).length:=hl2
  replace he:d3G l++(tSt x::d3G r)=d3G (l++x::r):=he
  unfold a0V
  simp only[a0L,elems]
  rw[if_pos ⟨ha,by decide⟩]
  simp only[hl,hl2,hk,hr,he,g5X,if_true]
theorem f6K:b6Q 13 0 [T.int .i64 0,T.str [],T.bool false,T.int .i64 0,T.int .i64 0,T.int .i64 0,T.int .i64 0,T.int .u64 0,T.str [],T.sl true [],T.int .i64 0,T.int .i64 0,T.sl true []] []=some (.lit []):=rfl
theorem f6L:b6Q 1 0 [T.int .u64 0] []=some (.lit []):=rfl
end Go.Ky
