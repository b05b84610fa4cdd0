/- KX 70: two asserts at the end of a program change places: the checker's answer. No program in sight. -/
import Derived.Test.YtdjcnfacjfnakaaGreatKx19
import Derived.Test.YtdjcnfacjfnakaaGreatKx19
import Derived.Test.YtdjcnfacjfnakaaGreatKx27
import Derived.Test.YtdjcnfacjfnakaaGreatPi29
set_option linter.unusedSimpArgs false
set_option linter.unusedVariables false
namespace Go.Ky
open Go.Pi Go.Lx
theorem e6X {w:Int} (h:0≤w):mx w 0=w:=by unfold mx;rw[if_neg (by omega)]
def Wd {α:Type} (f:Int→α×Int):Prop:=∃ (r:α) (k:Int),0≤k∧∀ w,0≤w→f w=(r,mx w k)
theorem Wd.const {α:Type} (r:α):Wd fun w=>(r,w):=⟨r,0,Int.le_refl _,fun w hw=>by rw[e6X hw]⟩
end Go.Ky

/- KX 71: how a program is executed over a field, as a model: values, names, statements, calls. No program in sight. -/
namespace Go.Ky
open Go.Pi Go.Lx
structure Ops where
 red:Int→Int
 neg:Int→Int
 add:Int→Int→Int
 sub:Int→Int→Int
 mul:Int→Int→Int
 hash:Int→List Int→Int
structure Ops.Nn (O:Ops):Prop where
 red:∀ a,0≤a→0≤O.red a
 neg:∀ a,0≤a→0≤O.neg a
 add:∀ a b,0≤a→0≤b→0≤O.add a b
 sub:∀ a b,0≤a→0≤b→0≤O.sub a b
 mul:∀ a b,0≤a→0≤b→0≤O.mul a b
 hash:∀ v l,0≤v→(∀ n,n∈l→0≤n)→0≤O.hash v l
structure Vl where
 els:List Int
 arr:Bool
 num:Int
abbrev Sc:=List (Nm×Vl)
abbrev Fi:=Nm→List Vl→Bool→Vl×Bool
def zVl:Vl:=⟨[],false,0⟩
def e6Y (n:Int):Vl:=⟨[n],false,0⟩
def fst (v:Vl):Int:=v.els.getD 0 0
def e6Z {α:Type} (k:Nm) (n:α):List (Nm×α)→List (Nm×α)
 |[]=>[(k,n)]
 |(j,m)::r=>if k=j then (k,n)::r else (j,m)::e6Z k n r
def e7A (b:Bool):Int:=if b then 1 else 0
def e7B (O:Ops) (op val:Int) (x:List Int):Int :=
 if op=1 then O.red val else if op=3 then 1 else if op=9 then O.neg (x.getD 0 0) else if op=10 then O.sub 1 (x.getD 0 0)
 else if op=11∨op=18 then O.mul (x.getD 0 0) (x.getD 1 0)
 else if op=12 then O.add (x.getD 0 0) (x.getD 1 0)
 else if op=13 then O.sub (x.getD 0 0) (x.getD 1 0)
 else if op=19 then O.sub (O.add (x.getD 0 0) (x.getD 1 0)) (O.mul (x.getD 0 0) (x.getD 1 0))
 else if op=14 then e7A (decide (x.getD 0 0=x.getD 1 0))
 else if op=15 then e7A (decide (x.getD 0 0≠x.getD 1 0))
 else if op=16 then e7A (decide (x.getD 0 0 < x.getD 1 0))
 else if op=17 then e7A (decide (x.getD 0 0≤x.getD 1 0))
 else 0
def opV (O:Ops) (Φ:Fi) (op val:Int) (nm:Nm) (vs:List Vl) (fl:Bool):Vl×Bool :=
 if op=5 then Φ nm vs fl
 else if op=6 then (e6Y (O.hash val (vs.map fst)),fl)
 else if op=7 then (⟨vs.map fst,true,0⟩,fl)
 else if op=20 then (if fst (vs.getD 0 zVl)≠0 then vs.getD 1 zVl else vs.getD 2 zVl,fl)
 else (e6Y (e7B O op val (vs.map fst)),fl)
def lkV (nm:Nm) (sc:Sc):Vl:=(look nm sc).getD zVl
def e7C (e:Exp) (sc:Sc):Int :=
 if e.op=2 then (lkV e.name sc).num
 else if e.op=12 then IntKind.i64.wrap ((lkV (e.args.getD 0 default).name sc).num+IntKind.i64.wrap (e.args.getD 1 default).val)
 else if e.op=13 then IntKind.i64.wrap ((lkV (e.args.getD 0 default).name sc).num - IntKind.i64.wrap (e.args.getD 1 default).val)
 else IntKind.i64.wrap e.val
mutual
def idS:St→Bool
 |.mk k _ _ _ _ lo hi _ l=>if k≠3 then false else if lo≥hi then true else e7D l
def e7D:List St→Bool
 |[]=>true
 |s::r=>idS s&&e7D r
end
theorem e7E (l:List St):e7D l=l.all idS:=by
 induction l with
 |nil=>rfl
 |cons e r ih=>rw[e7D,ih];rfl
theorem e7F (s:St):idS s=if s.kind≠3 then false else if s.lo≥s.hi then true else s.body.all idS:=by
 cases s
 rw[idS,e7E];rfl
def a1O (f:Int→Sc→Bool→Sc×Bool):Nat→Int→Sc→Bool→Sc×Bool
 |0,_,sc,fl=>(sc,fl)
 |k+1,n,sc,fl=>if fl then (sc,fl) else a1O f k (n+1) (f n sc fl).1 (f n sc fl).2
def e7G (n:Int):Int:=if n < 1 then 1 else n
def fi0:Fi:=fun _ _ fl=>(zVl,fl)
theorem e7H {α:Type} (k j:Nm) (n:α) (ks:List (Nm×α)):look j (e6Z k n ks)=if j=k then some n else look j ks:=by
 induction ks with
 |nil =>
  simp only[e6Z,look]
 |cons x r ih =>
  obtain⟨i,m⟩:=x
  simp only[e6Z]
  by_cases h:k=i
  ·rw[if_pos h,look,look]
   by_cases h2:j=k
   ·rw[if_pos h2,if_pos h2]
   ·rw[if_neg h2,if_neg h2,if_neg (by rw[←h];exact h2)]
  ·rw[if_neg h,look,look,ih]
   by_cases h2:j=i
   ·rw[if_pos h2,if_neg (fun e=>h (by rw[←e,h2]))]
    rw[if_pos h2]
   ·rw[if_neg h2,if_neg h2]
end Go.Ky

/- KX 72: what the checker lets through has values of the right lengths. No program in sight. -/
namespace Go.Ky
open Go.Pi Go.Lx
def VOk (n:Int) (v:Vl):Prop:=0≤n∧n≤B47∧(v.els.length:Int)=e7G n∧∀ x,x∈v.els→0≤x
def VsOk:List Ty→List Vl→Prop
 |[],[]=>True
 |t::ts,v::vs=>VOk t.len v∧VsOk ts vs
 |_,_=>False
def PsOk:List Pa→List Vl→Prop
 |[],[]=>True
 |t::ts,v::vs=>VOk t.ty.len v∧PsOk ts vs
 |_,_=>False
def ScOk (ns:Ns) (sc:Sc):Prop:=∀ nm s,look nm ns=some s→∃ v,look nm sc=some v∧VOk s.typ.len v∧(s.loop=true→0≤s.low∧s.high≤1000000∧s.low≤v.num∧v.num < s.high)
def FiOk (fs:Fs) (Φ:Fi):Prop:=∀ nm f,look nm fs=some f→∀ vs fl,PsOk f.params vs→VOk f.res.len (Φ nm vs fl).1
theorem VOk.one {n:Int} (h:0≤n):VOk 0 (e6Y n):=⟨Int.le_refl _,by decide,rfl,fun x hx=>by
 have:x=n:=by simpa [e6Y] using hx
 omega⟩
theorem e7I {l:List Int} (h:∀ x,x∈l→0≤x) (i:Nat):0≤l.getD i 0:=by
 rw[List.getD_eq_getElem?_getD]
 cases hi:l[i]? with
 |none=>simp
 |some x=>simpa using h x (g4K hi)
theorem VOk.fst {n:Int} {v:Vl} (h:VOk n v):0≤Ky.fst v:=e7I h.2.2.2 0
theorem VOk.pos {n:Int} {v:Vl} (h:VOk n v):0 < v.els.length:=by
 have h1:=h.2.2.1
 have h2:=h.1
 unfold e7G at h1
 split at h1 <;> omega
theorem VsOk.len:∀ {ts:List Ty} {vs:List Vl},VsOk ts vs→vs.length=ts.length
 |[],[],_=>rfl
 |t::ts,v::vs,h=>by simp [VsOk.len h.2]
 |[],v::vs,h=>h.elim
 |t::ts,[],h=>h.elim
theorem PsOk.len:∀ {ts:List Pa} {vs:List Vl},PsOk ts vs→vs.length=ts.length
 |[],[],_=>rfl
 |t::ts,v::vs,h=>by simp [PsOk.len h.2]
 |[],v::vs,h=>h.elim
 |t::ts,[],h=>h.elim
theorem VsOk.at:∀ {ts:List Ty} {vs:List Vl},VsOk ts vs→∀ i,i < ts.length→VOk (ts.getD i zTy).len (vs.getD i zVl)
 |[],[],_,i,hi=>absurd hi (by simp)
 |t::ts,v::vs,h,0,_=>by simpa using h.1
 |t::ts,v::vs,h,i+1,hi=>by simpa using VsOk.at h.2 i (by simpa using hi)
 |[],v::vs,h,_,_=>h.elim
 |t::ts,[],h,_,_=>h.elim
theorem VsOk.mem:∀ {ts:List Ty} {vs:List Vl},VsOk ts vs→∀ v,v∈vs→∃ n,VOk n v
 |[],[],_,v,hv=>by cases hv
 |t::ts,v::vs,h,x,hx=>by
  rcases g4G.1 hx with e|e
  ·subst e;exact⟨_,h.1⟩
  ·exact VsOk.mem h.2 x e
 |[],v::vs,h,_,_=>h.elim
 |t::ts,[],h,_,_=>h.elim
theorem VsOk.fsts {ts:List Ty} {vs:List Vl} (h:VsOk ts vs):∀ n,n∈vs.map Ky.fst→0≤n:=by
 intro n hn
 obtain⟨v,hv,rfl⟩:=List.mem_map.1 hn
 obtain⟨k,hk⟩:=h.mem v hv
 exact hk.fst
theorem e7J:∀ (ts:List Ty) (ps:List Pa) (vs:List Vl),VsOk ts vs→ts.length=ps.length→d3U ts ps=true→PsOk ps vs
 |[],[],[],_,_,_=>True.intro
 |t::ts,p::ps,v::vs,h,hl,hf=>by
  simp only[d3U,g2R] at hf
  obtain⟨f1,f2⟩:=hf
  refine⟨?_,e7J ts ps vs h.2 (by simpa using hl) f2⟩
  have:t.len=p.ty.len:=by
   unfold d3O at f1
   split at f1
   ·cases f1
   ·rename_i c;simpa using c
  rw[←this];exact h.1
 |[],[],v::vs,h,_,_=>h.elim
 |[],p::ps,_,_,hl,_=>by simp at hl
 |t::ts,[],_,_,hl,_=>by simp at hl
 |t::ts,p::ps,[],h,_,_=>h.elim
theorem e7K (b:Bool):0≤e7A b:=by unfold e7A;split <;> decide
theorem e7L {c:Prop} [Decidable c] {a b:Int} (h:0≤a) (h':0≤b):0≤if c then a else b:=by split <;> assumption
theorem e7M {O:Ops} (hO:O.Nn) {op val:Int} {x:List Int} (hv:0≤val) (hx:∀ n,n∈x→0≤n):0≤e7B O op val x:=by
 have h0:=e7I hx 0
 have h1:=e7I hx 1
 have z1:(0:Int)≤1:=by decide
 unfold e7B
 exact e7L (hO.red _ hv) (e7L z1 (e7L (hO.neg _ h0) (e7L (hO.sub _ _ z1 h0) (e7L (hO.mul _ _ h0 h1) (e7L (hO.add _ _ h0 h1) (e7L (hO.sub _ _ h0 h1) (e7L (hO.sub _ _ (hO.add _ _ h0 h1) (hO.mul _ _ h0 h1)) (e7L (e7K _) (e7L (e7K _) (e7L (e7K _) (e7L (e7K _) (Int.le_refl _))))))))))))
theorem e7N {p:Ty→Bool} {l:List Ty} {r:Ty} (h:(d3T p l r).2=0):(d3T p l r).1=r:=by
 unfold d3T at h ⊢
 split at h
 ·rename_i c;rw[if_pos c]
 ·cases h
theorem e7O {x y:Ty} {w:Int} (h:(d3Z x y w).1.2=0):(d3Z x y w).1.1.len=0:=by
 unfold d3Z at h ⊢
 split at h
 ·cases h
 ·rename_i c;rw[if_neg c];rfl
theorem b1E {O:Ops} (hO:O.Nn) {Φ:Fi} {fs:Fs} (hΦ:FiOk fs Φ) {ns:Ns} {op val:Int} {nm:Nm} {ts:List Ty} {vs:List Vl} {w:Int} {fl:Bool} (hv:0≤val) (h2:op≠2) (h8:op≠8) (hl:ts.length≤B47) (hB:opB op (ts.length:Int) val nm=true) (h:VsOk ts vs) (he:(opM fs ns op val nm ts w).1.2=0) :
  VOk (opM fs ns op val nm ts w).1.1.len (opV O Φ op val nm vs fl).1:=by
 have sc:∀ t:Ty,t.len=0→(h5:op≠5)→(h6:op≠6)→(h7:op≠7)→(h20:op≠20)→VOk t.len (opV O Φ op val nm vs fl).1:=by
  intro t ht h5 h6 h7 h20
  unfold opV
  rw[if_neg h5,if_neg h6,if_neg h7,if_neg h20,ht]
  exact VOk.one (e7M hO hv h.fsts)
 unfold opM at he ⊢
 by_cases c1:op=1
 ·rw[if_pos c1]
  refine sc _ ?_ (by omega) (by omega) (by omega) (by omega)
  show(d3Q val).len=0
  unfold d3Q
  split <;> rfl
 rw[if_neg c1] at he ⊢
 by_cases c3:op=3∨op=4
 ·rw[if_pos c3]
  exact sc _ rfl (by omega) (by omega) (by omega) (by omega)
 rw[if_neg c3,if_neg h2] at he ⊢
 by_cases c5:op=5
 ·rw[if_pos c5] at he ⊢
  unfold opV
  rw[if_pos c5]
  simp only at he ⊢
  unfold d3V at he ⊢
  cases hf:look nm fs with
  |none=>rw[hf] at he;cases he
  |some f =>
   rw[hf] at he
   simp only at he ⊢
   split at he
   ·cases he
   ·rename_i c
    split at he
    ·rename_i cf
     rw[if_neg c,if_pos cf]
     exact hΦ nm f hf vs fl (e7J ts f.params vs h (by omega) cf)
    ·cases he
 rw[if_neg c5] at he ⊢
 by_cases c6:op=6
 ·rw[if_pos c6] at he ⊢
  simp only at he ⊢
  split at he
  ·cases he
  ·rename_i c
   rw[if_neg c,e7N he]
   unfold opV
   rw[if_neg c5,if_pos c6]
   exact VOk.one (hO.hash _ _ hv h.fsts)
 rw[if_neg c6] at he ⊢
 by_cases c7:op=7
 ·rw[if_pos c7] at he ⊢
  simp only at he ⊢
  unfold opV
  rw[if_neg c5,if_neg c6,if_pos c7]
  unfold d3X at he ⊢
  match ts,h,he,hl with
  |[],_,he,_=>cases he
  |a::r,h,he,hl =>
   simp only at he ⊢
   cases hg:d3W a (a::r) a with
   |none=>rw[hg] at he;cases he
   |some x =>
    have hlen:=h.len
    refine⟨by simp only;omega,by simp only;omega,?_,h.fsts⟩
    show(((vs.map Ky.fst).length:Nat):Int)=_
    rw[g3X,hlen]
    unfold e7G
    rw[if_neg (by simp only[g3W];omega)]
 rw[if_neg c7] at he ⊢
 by_cases c20:op=20
 ·rw[if_pos c20] at he ⊢
  simp only at he ⊢
  have h3:ts.length=3:=by
   subst c20
   unfold opB at hB
   simp at hB
   omega
  have v1:=h.at 1 (by omega)
  have v2:=h.at 2 (by omega)
  unfold opV
  rw[if_neg c5,if_neg c6,if_neg c7,if_pos c20]
  unfold d3Y at he ⊢
  split at he
  ·cases he
  ·rename_i ca
   rw[if_neg ca]
   split at he
   ·rename_i cb
    rw[if_pos cb]
    rw[←cb] at v2
    simp only
    split <;> assumption
   ·rename_i cb
    rw[if_neg cb]
    split at he
    ·rename_i cc
     rw[if_pos cc]
     simp only[g2R,d3R,g5L] at cc
     rw[cc.1] at v1
     rw[cc.2] at v2
     simp only
     show VOk 0 _
     split <;> assumption
    ·cases he
 rw[if_neg c20] at he ⊢
 by_cases c14:op=14∨op=15
 ·rw[if_pos c14] at he ⊢
  simp only at he ⊢
  rw[e7N he]
  exact sc d1W rfl c5 c6 c7 c20
 rw[if_neg c14] at he ⊢
 by_cases c16:op=16∨op=17
 ·rw[if_pos c16] at he ⊢
  rw[e7O he]
  exact sc d1W rfl c5 c6 c7 c20
 rw[if_neg c16] at he ⊢
 by_cases c10:op=10∨op=18∨op=19
 ·rw[if_pos c10] at he ⊢
  simp only at he ⊢
  rw[e7N he]
  exact sc d1W rfl c5 c6 c7 c20
 rw[if_neg c10] at he ⊢
 simp only at he ⊢
 rw[e7N he]
 exact sc d1V rfl c5 c6 c7 c20
theorem e7P (fs:Fs) (ns:Ns):∀ (l:List Exp) (w:Int),(d4C fs ns l w).1.2=0→(d4C fs ns l w).1.1.length=l.length:=by
 intro l
 induction l with
 |nil=>intro w _;rw[d4C];rfl
 |cons a r ih =>
  intro w
  rw[d6C]
  split
  ·intro h;contradiction
  ·split
   ·intro h;contradiction
   ·rename_i h2
    intro _
    simp [ih _ (by simpa using h2)]
theorem e7Q {e:Exp} (h:ExpOk e):0≤e.val∧e.args.length≤B47∧∀ a,a∈e.args→ExpOk a:=by
 cases h with|mk _ h1 h2 h3 h4 h5 h=>exact⟨h2.1,h4,h⟩
theorem e7R {e:Exp} (h:exB e=true):(∀ a,a∈e.args→exB a=true)∧opB e.op (e.args.length:Int) e.val e.name=true:=by
 rw[d2X,g2R,g2Y] at h
 exact h
theorem e7S {ns:Ns} {r:Rt×Int} {b:Exp} (h:(d4B ns r b).1.2=0):r.1.2=0∧d4A ns b r.1.1.len=(true,0)∧r.1.1.len≠0∧(d4B ns r b).1.1.len=0:=by
 unfold d4B at h ⊢
 by_cases c1:r.1.2≠0
 ·rw[if_pos c1] at h;exact absurd h c1
 rw[if_neg c1] at h ⊢
 simp only at h ⊢
 by_cases c2:(d4A ns b r.1.1.len).2≠0
 ·rw[if_pos c2] at h;exact absurd h c2
 rw[if_neg c2] at h ⊢
 by_cases c3:r.1.1.len=0
 ·rw[if_pos c3] at h;cases h
 rw[if_neg c3] at h ⊢
 by_cases c4:(d4A ns b r.1.1.len).1=false
 ·rw[if_pos c4] at h;cases h
 rw[if_neg c4] at h ⊢
 refine⟨by simpa using c1,?_,c3,rfl⟩
 exact Prod.ext (by simpa using c4) (by simpa using c2)
theorem e7T {ns:Ns} {sc:Sc} (hsc:ScOk ns sc) {b:Exp} {n:Int} (hb:ExpOk b) (h0:0≤n) (h1:n≤B47) (h:d4A ns b n=(true,0)):0≤e7C b sc∧e7C b sc < n:=by
 have hB:B47=140737488355328:=rfl
 rw[hB] at h1
 have hw:IntKind.u64.wrap n=n:=IntWalk.u64_in _ (by omega)
 unfold d4A at h
 simp only[hw] at h
 have hv:U64 b.val:=by cases hb with|mk _ h1 h2 h3 h4 h5 h=>exact h2
 unfold U64 at hv
 by_cases c1:b.op=1
 ·rw[if_pos c1] at h
  have h:=(Prod.mk.inj h).1
  simp at h
  unfold e7C
  rw[if_neg (by omega),if_neg (by omega),if_neg (by omega),IntWalk.i64_in _ (by omega)]
  omega
 rw[if_neg c1] at h
 by_cases c2:(b.op=12∨b.op=13)∧(b.args.getD 1 default).op≠1
 ·rw[if_pos c2] at h;cases h
 rw[if_neg c2] at h
 have hoff:U64 (b.args.getD 1 default).val:=by
  rw[List.getD_eq_getElem?_getD]
  cases hi:b.args[1]? with
  |none=>exact⟨by decide,by decide⟩
  |some a =>
   have:ExpOk a:=(e7Q hb).2.2 a (g4K hi)
   cases this with|mk _ h1 h2 h3 h4 h5 h=>exact h2
 unfold U64 at hoff
 have look_of:∀ (e:Exp) (s:Sy),look e.name ns=some s→s.loop=true→0≤s.low∧s.high≤1000000∧s.low≤(lkV e.name sc).num∧(lkV e.name sc).num < s.high:=by
  intro e s hs hl
  obtain⟨v,k1,k2,k3⟩:=hsc _ _ hs
  unfold lkV
  rw[k1]
  exact k3 hl
 by_cases c12:b.op=12∨b.op=13
 ·simp only[c12,if_true] at h
  split at h
  ·cases h
  ·split at h
   ·cases h
   ·rename_i s hs
    split at h
    ·cases h
    ·rename_i hl
     obtain⟨g1,g2,g3,g4⟩:=look_of _ s hs (by simpa using hl)
     rw[if_neg (by omega)] at h
     have w1:IntKind.i64.wrap (s.high - 1)=s.high - 1:=IntWalk.i64_in _ (by omega)
     have w2:IntKind.u64.wrap (s.high - 1)=s.high - 1:=IntWalk.u64_in _ (by omega)
     have w3:IntKind.u64.wrap s.low=s.low:=IntWalk.u64_in _ (by omega)
     simp only[w1,w2,w3] at h
     unfold e7C
     rw[if_neg (by omega)]
     by_cases c13:b.op=13
     ·rw[if_neg (by omega),if_pos c13]
      rw[if_pos c13] at h
      have h:=(Prod.mk.inj h).1
      simp only[g2R,g5L] at h
      rw[IntWalk.u64_in _ (by omega)] at h
      rw[IntWalk.i64_in (b.args.getD 1 default).val (by omega),IntWalk.i64_in _ (by omega)]
      omega
     ·rw[if_pos (by omega)]
      rw[if_neg c13] at h
      have h:=(Prod.mk.inj h).1
      simp only[g2R,g5L] at h
      rw[IntWalk.u64_in _ (by omega)] at h
      rw[IntWalk.i64_in (b.args.getD 1 default).val (by omega),IntWalk.i64_in _ (by omega)]
      omega
 ·simp only[c12,if_false] at h
  split at h
  ·cases h
  ·rename_i cn
   split at h
   ·cases h
   ·rename_i s hs
    split at h
    ·cases h
    ·rename_i hl
     obtain⟨g1,g2,g3,g4⟩:=look_of _ s hs (by simpa using hl)
     rw[if_neg (by omega)] at h
     have w1:IntKind.i64.wrap (s.high - 1)=s.high - 1:=IntWalk.i64_in _ (by omega)
     have w2:IntKind.u64.wrap (s.high - 1)=s.high - 1:=IntWalk.u64_in _ (by omega)
     have w3:IntKind.u64.wrap s.low=s.low:=IntWalk.u64_in _ (by omega)
     simp only[w1,w2,w3] at h
     unfold e7C
     rw[if_pos (by omega)]
     rw[if_neg (by omega)] at h
     have h:=(Prod.mk.inj h).1
     simp only[g2R,g5L,Int.add_zero,w2] at h
     omega
end Go.Ky

/- KX 73: statements, functions, inputs keep the names' values right. No program in sight. -/
namespace Go.Ky
open Go.Pi Go.Lx
theorem e7U {α:Type} (k:Nm) (s:α):look k [(k,s)]=some s:=by rw[look,if_pos rfl]
theorem e7V {α:Type} {k nm:Nm} (h:k≠nm) (s:α):look k [(nm,s)]=none:=by rw[look,if_neg h,look]
theorem ScOk.sub {ns r:Ns} {sc:Sc} (h:ScOk (ns++r) sc):ScOk ns sc:=by
 intro nm s hs
 refine h nm s ?_
 rw[d5F,hs]
theorem ScOk.new {ns:Ns} {sc:Sc} (h:ScOk ns sc) {nm:Nm} (hn:look nm ns=none) {s:Sy} {v:Vl} (hv:VOk s.typ.len v) (hl:s.loop=true→0≤s.low∧s.high≤1000000∧s.low≤v.num∧v.num < s.high):ScOk (ns++[(nm,s)]) (e6Z nm v sc):=by
 intro k t ht
 rw[d5F] at ht
 rw[e7H]
 by_cases hk:k=nm
 ·subst hk
  rw[hn] at ht
  simp only[e7U] at ht
  rw[if_pos rfl]
  have:t=s:=by simpa using ht.symm
  subst this
  exact⟨v,rfl,hv,hl⟩
 ·rw[if_neg hk]
  cases hb:look k ns with
  |some x =>
   rw[hb] at ht
   have:x=t:=by simpa using ht
   subst this
   exact h k x hb
  |none =>
   rw[hb] at ht
   simp only[e7V hk] at ht
   cases ht
theorem e7W {nm:Nm} {s:Sy} {ns:Ns} {w:Int} (h:(d4E nm s ns w).1=0):look nm ns=none:=by
 unfold d4E at h
 cases hl:look nm ns with
 |none=>rfl
 |some x=>rw[hl] at h;cases h
theorem e7X {t:Ty} (h:tyB t=true):0≤t.len∧t.len≤64:=by
 unfold tyB at h
 split at h
 ·cases h
 ·omega
theorem e7Y {t u:Ty} (h:d3O t u=true):t.len=u.len:=by
 unfold d3O at h
 split at h
 ·cases h
 ·rename_i c;simpa using c
theorem e7Z {s:St} (h:stB s=true) (h3:s.kind≠3) (h2:s.kind≠2):s.kind=1:=by
 rw[d3D] at h
 by_cases h1:s.kind=1
 ·exact h1
 ·rw[if_neg h1,if_neg h2,if_neg h3] at h;cases h
theorem ScOk.nil:ScOk [] []:=fun nm s h=>by cases h
theorem e8A {fs:Fs} {f:Fu} {w:Int} (h:(d4K fs f w).1=0):look f.name fs=none∧(d4K fs f w).2.1=fs++[(f.name,f)]∧(d4J f.params [] w).1=0∧(d4G fs f.body (d4J f.params [] w).2.1 (d4J f.params [] w).2.2).1=0 ∧
  (exM fs (d4G fs f.body (d4J f.params [] w).2.1 (d4J f.params [] w).2.2).2.1 f.ret (d4G fs f.body (d4J f.params [] w).2.1 (d4J f.params [] w).2.2).2.2).1.2=0 ∧
  d3O (exM fs (d4G fs f.body (d4J f.params [] w).2.1 (d4J f.params [] w).2.2).2.1 f.ret (d4G fs f.body (d4J f.params [] w).2.1 (d4J f.params [] w).2.2).2.2).1.1 f.res=true:=by
 cases hl:look f.name fs with
 |some x=>rw[d6Z _ _ _ hl] at h;cases h
 |none =>
  rw[d6Y _ _ _ hl] at h ⊢
  by_cases c1:(d4J f.params [] w).1≠0
  ·rw[if_pos c1] at h;exact absurd h c1
  rw[if_neg c1] at h ⊢
  by_cases c2:(d4G fs f.body (d4J f.params [] w).2.1 (d4J f.params [] w).2.2).1≠0
  ·rw[if_pos c2] at h;exact absurd h c2
  rw[if_neg c2] at h ⊢
  by_cases c3:(exM fs (d4G fs f.body (d4J f.params [] w).2.1 (d4J f.params [] w).2.2).2.1 f.ret (d4G fs f.body (d4J f.params [] w).2.1 (d4J f.params [] w).2.2).2.2).1.2≠0
  ·rw[if_pos c3] at h;exact absurd h c3
  rw[if_neg c3] at h ⊢
  cases c4:d3O (exM fs (d4G fs f.body (d4J f.params [] w).2.1 (d4J f.params [] w).2.2).2.1 f.ret (d4G fs f.body (d4J f.params [] w).2.1 (d4J f.params [] w).2.2).2.2).1.1 f.res with
  |false=>rw[c4,if_pos rfl] at h;cases h
  |true =>
   rw[if_neg (by simp)]
   exact⟨rfl,rfl,by simpa using c1,by simpa using c2,by simpa using c3,rfl⟩
theorem e8B {f:Fu} (h:fuB f=true):tyB f.res=true∧(∀ s,s∈f.body→stB s=true)∧exB f.ret=true:=by
 unfold fuB at h
 simp only[g2R,g2Y] at h
 exact⟨h.1.1.2,h.1.2,h.2⟩
theorem FiOk.nil:FiOk [] fi0:=fun nm f h=>by cases h
def e8C:List De→Bool→Nat
 |[],_=>0
 |d::r,b=>(if d.pub=b then (e7G d.ty.len).toNat else 0)+e8C r b
theorem e8D {n:Int} (h:0≤n):mx n 1=e7G n:=by
 unfold mx e7G
 by_cases c:n < 1
 ·rw[if_pos c] <;> rfl
 ·rw[if_neg c] <;> rfl
theorem e8E:∀ (l:List De) (a b:Int),(∀ d,d∈l→tyB d.ty=true)→0≤a→0≤b→a+64 * l.length≤1000000000000→b+64 * l.length≤1000000000000→d7T l a b=(a+e8C l true,b+e8C l false):=by
 intro l
 induction l with
 |nil=>intro a b _ _ _ _ _;simp [d7T,e8C]
 |cons d r ih =>
  intro a b hl ha hb ha2 hb2
  obtain⟨t1,t2⟩:=e7X (hl d (by simp))
  have hr:∀ x,x∈r→tyB x.ty=true:=fun x hx=>hl x (by simp [hx])
  rw[g3W] at ha2 hb2
  have hm:=e8D t1
  have hm2:1≤e7G d.ty.len∧e7G d.ty.len≤64:=by unfold e7G;split <;> omega
  rw[d7T,hm,e8C,e8C]
  cases hp:d.pub with
  |true =>
   rw[if_pos rfl,if_pos rfl,if_neg (by simp),IntWalk.i64_in _ (by omega),ih _ _ hr (by omega) hb (by omega) (by omega)]
   refine Prod.ext ?_ ?_
   ·simp only;omega
   ·simp only;omega
  |false =>
   rw[if_neg (by simp),if_neg (by simp),if_pos rfl,IntWalk.i64_in _ (by omega),ih _ _ hr ha (by omega) (by omega) (by omega)]
   refine Prod.ext ?_ ?_
   ·simp only;omega
   ·simp only;omega
end Go.Ky

/- KX 74: PLAIN LAW of SemanticsSwap: two asserts at the end change places. No program in sight. -/
namespace Go.Ky
open Go.Pi Go.Lx
end Go.Ky

/- KX 75: values as trees. No program in sight. -/
namespace Go.Ky
open Go.Pi Go.Lx
abbrev uL (l:List Int):List (List T):=l.map fun n=>[.int .u64 n]
theorem e8F (l:List Int) (i:Nat):(uL l)[i]?=l[i]?.map fun n=>[.int .u64 n]:=by unfold uL;rw[g3O]
theorem e8G (l:List Int):(uL l).length=l.length:=by unfold uL;rw[g3X]
end Go.Ky

/- KX 76: a slice of numbers that is filled. No program in sight. -/
namespace Go.Ky
open Go.Pi Go.Lx
end Go.Ky

/- KX 77: a map's entries, one put over an older one. No program in sight. -/
namespace Go.Ky
open Go.Pi Go.Lx
theorem e8H {α:Type} (enc:α→T) (k:Nm) (v:α) (l:List (Nm×α)):a1A 2 (.str k) (enc v) (d4Z enc l)=d4Z enc (e6Z k v l):=by
 induction l with
 |nil=>rfl
 |cons p r ih =>
  obtain⟨j,x⟩:=p
  show a1A 2 (.str k) (enc v) (.tup [.t (.str j),.t (enc x)]::d4Z _ r)=_
  simp only[a1A,d5A,e6Z]
  by_cases h:k=j
  ·subst h;simp [d4Z]
  ·simp only[g5I h,if_neg h,ih]
   simp [d4Z]
def e8I:List Fu→Fs→Fs
 |[],l=>l
 |f::r,l=>e8I r (e6Z f.name f l)
theorem e8J {α:Type} {k:Nm} {v:α}:∀ {l:List (Nm×α)},Ky.look k l=none→e6Z k v l=l++[(k,v)]
 |[],_=>rfl
 |(j,m)::r,h=>by
  simp only[Ky.look] at h
  split at h
  ·cases h
  ·rename_i hk
   rw[e6Z,if_neg hk,e8J h];rfl
theorem e8K:∀ (l:List Fu) (fs:Fs) (w:Int),(d4L l fs w).1=0→e8I l fs=(d4L l fs w).2.1:=by
 intro l
 induction l with
 |nil=>intro fs w _;rw[d4L,e8I]
 |cons f r ih =>
  intro fs w he
  rw[d7A] at he ⊢
  by_cases c:(d4K fs f w).1≠0
  ·rw[if_pos c] at he;exact absurd he c
  rw[if_neg c] at he ⊢
  obtain⟨h1,h2,_⟩:=e8A (show(d4K fs f w).1=0 by simpa using c)
  rw[h2] at he ⊢
  rw[e8I,e8J h1]
  exact ih _ _ he
end Go.Ky

/- KX 78: a slice of values that is filled. No program in sight. -/
namespace Go.Ky
open Go.Pi Go.Lx
abbrev c3 (v:Vl):List PV:=[.t (.sl false (uL v.els)),.t (.bool v.arr),.t (.int .i64 v.num)]
end Go.Ky

/- KX 79: what the checker has said of a statement that is executed. No program in sight. -/
namespace Go.Ky
open Go.Pi Go.Lx
theorem e8L {fs:Fs} {s:St} {ns:Ns} {w:Int} (h3:s.kind≠3) (h:(stM fs s ns w).1=0):(exM fs ns s.ex w).1.2=0:=by
 rw[d6O h3] at h
 by_cases c:(exM fs ns s.ex w).1.2≠0
 ·rw[if_pos c] at h;exact absurd h c
 ·simpa using c
theorem e8M {fs:Fs} {s:St} {ns:Ns} {w:Int} (h3:s.kind≠3) (h2:s.kind≠2) (ht:s.typed=true) (hB:stB s=true) (h:(stM fs s ns w).1=0):(exM fs ns s.ex w).1.1.len=s.ty.len∧tyB s.ty=true:=by
 have h1:=e7Z hB h3 h2
 have he:=e8L h3 h
 rw[d6O h3,if_neg (by simpa using he),if_neg h2,if_pos ht] at h
 refine⟨?_,?_⟩
 ·split at h
  ·cases h
  ·rename_i c
   by_cases c0:s.ty.len=0
   ·rw[c0]
    exact Decidable.byContradiction fun e=>c (.inl ⟨c0,e⟩)
   ·refine e7Y ?_
    cases hf:d3O (exM fs ns s.ex w).1.1 s.ty with
    |true=>rfl
    |false=>exact absurd (.inr ⟨c0,hf⟩) c
 ·rw[d3D,if_pos h1,ht] at hB
  simp only[g2R] at hB
  have:=hB.1.1.1.1.1
  simpa using this
theorem e8N {t:Ty} (h:tyB t=true):t.kind=3→0≤t.bits∧t.bits≤62:=by
 intro h3
 unfold tyB at h
 split at h
 ·cases h
 ·simp only[h3,g2R,g5L] at h
  simp at h
  omega
theorem e8O {fs:Fs} {s:St} {ns:Ns} {w:Int} (h3:s.kind=3) (hB:stB s=true) (he:(stM fs s ns w).1=0):Ky.look s.name ns=none∧0≤s.lo∧s.lo≤s.hi∧s.hi≤1000000∧(d4G fs s.body (ns++[(s.name,⟨d1V,true,s.lo,s.hi⟩)]) w).1=0:=by
 have hlk:=d7P fs s hB ns w he
 rw[d7E,if_pos h3] at hlk
 simp only[g2R,g5L] at hlk
 obtain⟨⟨⟨l1,l2⟩,l3⟩,-⟩:=hlk
 rw[d6N h3] at he
 have cg:¬s.lo > s.hi:=by omega
 rw[if_neg cg] at he
 by_cases c1:(d4E s.name ⟨d1V,true,s.lo,s.hi⟩ ns w).1≠0
 ·rw[if_pos c1] at he;exact absurd he c1
 rw[if_neg c1] at he
 have c1':(d4E s.name ⟨d1V,true,s.lo,s.hi⟩ ns w).1=0:=by simpa using c1
 have hnew:=e7W c1'
 rw[d6I c1'] at he
 simp only at he
 by_cases c2:(d4G fs s.body (ns++[(s.name,⟨d1V,true,s.lo,s.hi⟩)]) w).1≠0
 ·rw[if_pos c2] at he;exact absurd he c2
 exact⟨hnew,l1,by omega,l3,by simpa using c2⟩
theorem e8P {fs:Fs} {s:St} {r:List St} {ns:Ns} {w:Int} (h:(d4G fs (s::r) ns w).1=0):(stM fs s ns w).1=0∧(d4G fs r (stM fs s ns w).2.1 (stM fs s ns w).2.2).1=0:=by
 rw[d6K] at h
 by_cases c:(stM fs s ns w).1≠0
 ·rw[if_pos c] at h;exact absurd h c
 ·rw[if_neg c] at h;exact⟨by simpa using c,h⟩
theorem e8Q:∀ (l:List Fu) (fs:Fs) (w:Int),(d4L l fs w).1=0→∀ nm f,Ky.look nm fs=some f→Ky.look nm (d4L l fs w).2.1=some f:=by
 intro l
 induction l with
 |nil=>intro fs w _ nm f h;rw[d4L];exact h
 |cons g r ih =>
  intro fs w he nm f h
  rw[d7A] at he ⊢
  by_cases c:(d4K fs g w).1≠0
  ·rw[if_pos c] at he;exact absurd he c
  rw[if_neg c] at he ⊢
  obtain⟨h1,h2,_⟩:=e8A (show(d4K fs g w).1=0 by simpa using c)
  refine ih _ _ he nm f ?_
  rw[h2,d5F,h]
end Go.Ky

/- KX 80: slices of numbers, the inputs of a run, rounds of loops. No program in sight. -/
namespace Go.Ky
open Go.Pi Go.Lx
theorem e8R {b:Int} (h0:0≤b) (h1:b≤63):IntKind.u64.wrap (1 * 2 ^ min b.toNat IntKind.u64.bits)=2 ^ b.toNat:=by
 have hm:min b.toNat IntKind.u64.bits=b.toNat:=by
  have:IntKind.u64.bits=64:=rfl
  omega
 rw[hm,Int.one_mul]
 have h2:(2:Nat) ^ b.toNat≤9223372036854775808:=Nat.pow_le_pow_right (n:=2) (by decide) (show b.toNat≤63 by omega)
 have e:(2:Int) ^ b.toNat=((2 ^ b.toNat:Nat):Int):=by push_cast;rfl
 rw[e]
 generalize (2:Nat) ^ b.toNat=x at *
 exact IntWalk.u64_in _ (by omega)
end Go.Ky
