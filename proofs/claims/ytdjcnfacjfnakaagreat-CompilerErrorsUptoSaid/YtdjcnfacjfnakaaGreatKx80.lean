/- KX 70: two asserts at the end of a program change places: the checker's answer. -/
import Derived.Test.YtdjcnfacjfnakaaGreatKx19
import Derived.Test.YtdjcnfacjfnakaaGreatKx19
import Derived.Test.YtdjcnfacjfnakaaGreatKx27
import Derived.Test.YtdjcnfacjfnakaaGreatPi29
set_option linter.unusedSimpArgs false
set_option linter.unusedVariables false
namespace Go.Ky
open Go.Pi Go.Lx
theorem e8J {w:Int} (h:0<=w):mx w 0=w:=by unfold mx;rw[if_neg (by omega)]
def Wd {α:Type} (f:Int->α×Int):Prop:=∃ (r:α) (k:Int),0<=k/\∀ w,0<=w->f w=(r,mx w k)
theorem Wd.const {α:Type} (r:α):Wd λw=>(r,w):=⟨r,0,Int.le_refl _,λw hw=>by rw[e8J hw]⟩
end Go.Ky

/- KX 71: how a program is executed over a field, as a model: values, names, statements, calls. -/
namespace Go.Ky
open Go.Pi Go.Lx
structure Ops where
 red:Int->Int
 neg:Int->Int
 add:Int->Int->Int
 sub:Int->Int->Int
 mul:Int->Int->Int
 hash:Int->List Int->Int
structure Ops.Nn (O:Ops):Prop where
 red:∀ a,0<=a->0<=O.red a
 neg:∀ a,0<=a->0<=O.neg a
 add:∀ a b,0<=a->0<=b->0<=O.add a b
 sub:∀ a b,0<=a->0<=b->0<=O.sub a b
 mul:∀ a b,0<=a->0<=b->0<=O.mul a b
 hash:∀ v l,0<=v->(∀ n,n∈l->0<=n)->0<=O.hash v l
structure Vl where
 els:List Int
 arr:Bool
 num:Int
abbrev Sc:=List (Nm×Vl)
abbrev Fi:=Nm->List Vl->Bool->Vl×Bool
def zVl:Vl:=⟨[],false,0⟩
def e8K (n:Int):Vl:=⟨[n],false,0⟩
def fst (v:Vl):Int:=v.els.getD 0 0
def e8L {α:Type} (k:Nm) (n:α):List (Nm×α)->List (Nm×α)
 |[]=>[(k,n)]
 |(j,m)::r=>if k=j then (k,n)::r else (j,m)::e8L k n r
def e8M (b:Bool):Int:=if b then 1 else 0
def e8N (O:Ops) (op val:Int) (x:List Int):Int :=
 if op=1 then O.red val else if op=3 then 1 else if op=9 then O.neg (x.getD 0 0) else if op=10 then O.sub 1 (x.getD 0 0)
 else if op=11\/op=18 then O.mul (x.getD 0 0) (x.getD 1 0)
 else if op=12 then O.add (x.getD 0 0) (x.getD 1 0)
 else if op=13 then O.sub (x.getD 0 0) (x.getD 1 0)
 else if op=19 then O.sub (O.add (x.getD 0 0) (x.getD 1 0)) (O.mul (x.getD 0 0) (x.getD 1 0))
 else if op=14 then e8M (decide (x.getD 0 0=x.getD 1 0))
 else if op=15 then e8M (decide (x.getD 0 0≠x.getD 1 0))
 else if op=16 then e8M (decide (x.getD 0 0 < x.getD 1 0))
 else if op=17 then e8M (decide (x.getD 0 0<=x.getD 1 0))
 else 0
def opV (O:Ops) (Φ:Fi) (op val:Int) (nm:Nm) (vs:List Vl) (fl:Bool):Vl×Bool :=
 if op=5 then Φ nm vs fl
 else if op=6 then (e8K (O.hash val (vs.map fst)),fl)
 else if op=7 then (⟨vs.map fst,true,0⟩,fl)
 else if op=20 then (if fst (vs.getD 0 zVl)≠0 then vs.getD 1 zVl else vs.getD 2 zVl,fl)
 else (e8K (e8N O op val (vs.map fst)),fl)
def lkV (nm:Nm) (sc:Sc):Vl:=(look nm sc).getD zVl
def e8O (e:Exp) (sc:Sc):Int :=
 if e.op=2 then (lkV e.name sc).num
 else if e.op=12 then IntKind.i64.wrap ((lkV (e.args.getD 0 default).name sc).num+IntKind.i64.wrap (e.args.getD 1 default).val)
 else if e.op=13 then IntKind.i64.wrap ((lkV (e.args.getD 0 default).name sc).num - IntKind.i64.wrap (e.args.getD 1 default).val)
 else IntKind.i64.wrap e.val
mutual
def idS:St->Bool
 |.mk k _ _ _ _ lo hi _ l=>if k≠3 then false else if lo>=hi then true else e8P l
def e8P:List St->Bool
 |[]=>true
 |s::r=>idS s&&e8P r
end
theorem e8Q (l:List St):e8P l=l.all idS:=by
 induction l with
 |nil=>rfl
 |cons e r ih=>rw[e8P,ih];rfl
theorem e8R (s:St):idS s=if s.kind≠3 then false else if s.lo>=s.hi then true else s.body.all idS:=by
 cases s
 rw[idS,e8Q];rfl
def a1I (f:Int->Sc->Bool->Sc×Bool):Nat->Int->Sc->Bool->Sc×Bool
 |0,_,sc,fl=>(sc,fl)
 |k+1,n,sc,fl=>if fl then (sc,fl) else a1I f k (n+1) (f n sc fl).1 (f n sc fl).2
def e8S (n:Int):Int:=if n < 1 then 1 else n
def fi0:Fi:=λ_ _ fl=>(zVl,fl)
theorem e8T {α:Type} (k j:Nm) (n:α) (ks:List (Nm×α)):look j (e8L k n ks)=if j=k then some n else look j ks:=by
 induction ks with
 |nil =>
  simp only[e8L,look]
 |cons x r ih =>
  obtain⟨i,m⟩:=x
  simp only[e8L]
  by_cases h:k=i
  ·rw[if_pos h,look,look]
   by_cases h2:j=k
   ·rw[if_pos h2,if_pos h2]
   ·rw[if_neg h2,if_neg h2,if_neg (by rw[<-h];exact h2)]
  ·rw[if_neg h,look,look,ih]
   by_cases h2:j=i
   ·rw[if_pos h2,if_neg (λe=>h (by rw[<-e,h2]))]
    rw[if_pos h2]
   ·rw[if_neg h2,if_neg h2]
end Go.Ky

/- KX 72: what the checker lets through has values of the right lengths. -/
namespace Go.Ky
open Go.Pi Go.Lx
def VOk (n:Int) (v:Vl):Prop:=0<=n/\n<=B47/\(v.els.length:Int)=e8S n/\∀ x,x∈v.els->0<=x
def VsOk:List Ty->List Vl->Prop
 |[],[]=>True
 |t::ts,v::vs=>VOk t.len v/\VsOk ts vs
 |_,_=>False
def PsOk:List Pa->List Vl->Prop
 |[],[]=>True
 |t::ts,v::vs=>VOk t.ty.len v/\PsOk ts vs
 |_,_=>False
def ScOk (ns:Ns) (sc:Sc):Prop:=∀ nm s,look nm ns=some s->∃ v,look nm sc=some v/\VOk s.typ.len v/\(s.loop=true->0<=s.low/\s.high<=1000000/\s.low<=v.num/\v.num < s.high)
def FiOk (fs:Fs) (Φ:Fi):Prop:=∀ nm f,look nm fs=some f->∀ vs fl,PsOk f.params vs->VOk f.res.len (Φ nm vs fl).1
theorem VOk.one {n:Int} (h:0<=n):VOk 0 (e8K n):=⟨Int.le_refl _,by decide,rfl,λx hx=>by
 have:x=n:=by simpa [e8K] using hx
 omega⟩
theorem e8U {l:List Int} (h:∀ x,x∈l->0<=x) (i:Nat):0<=l.getD i 0:=by
 rw[List.getD_eq_getElem?_getD]
 cases hi:l[i]? with
 |none=>simp
 |some x=>simpa using h x (g6K hi)
theorem VOk.fst {n:Int} {v:Vl} (h:VOk n v):0<=Ky.fst v:=e8U h.2.2.2 0
theorem VOk.pos {n:Int} {v:Vl} (h:VOk n v):0 < v.els.length:=by
 have h1:=h.2.2.1
 have h2:=h.1
 unfold e8S at h1
 split at h1 <;> omega
theorem VsOk.len:∀ {ts:List Ty} {vs:List Vl},VsOk ts vs->vs.length=ts.length
 |[],[],_=>rfl
 |t::ts,v::vs,h=>by simp [VsOk.len h.2]
 |[],v::vs,h=>h.elim
 |t::ts,[],h=>h.elim
theorem PsOk.len:∀ {ts:List Pa} {vs:List Vl},PsOk ts vs->vs.length=ts.length
 |[],[],_=>rfl
 |t::ts,v::vs,h=>by simp [PsOk.len h.2]
 |[],v::vs,h=>h.elim
 |t::ts,[],h=>h.elim
theorem VsOk.at:∀ {ts:List Ty} {vs:List Vl},VsOk ts vs->∀ i,i < ts.length->VOk (ts.getD i zTy).len (vs.getD i zVl)
 |[],[],_,i,hi=>absurd hi (by simp)
 |t::ts,v::vs,h,0,_=>by simpa using h.1
 |t::ts,v::vs,h,i+1,hi=>by simpa using VsOk.at h.2 i (by simpa using hi)
 |[],v::vs,h,_,_=>h.elim
 |t::ts,[],h,_,_=>h.elim
theorem VsOk.mem:∀ {ts:List Ty} {vs:List Vl},VsOk ts vs->∀ v,v∈vs->∃ n,VOk n v
 |[],[],_,v,hv=>by cases hv
 |t::ts,v::vs,h,x,hx=>by
  rcases g6H.1 hx with e|e
  ·subst e;exact⟨_,h.1⟩
  ·exact VsOk.mem h.2 x e
 |[],v::vs,h,_,_=>h.elim
 |t::ts,[],h,_,_=>h.elim
theorem VsOk.fsts {ts:List Ty} {vs:List Vl} (h:VsOk ts vs):∀ n,n∈vs.map Ky.fst->0<=n:=by
 intro n hn
 obtain⟨v,hv,rfl⟩:=List.mem_map.1 hn
 obtain⟨k,hk⟩:=h.mem v hv
 exact hk.fst
theorem e8V:∀ (ts:List Ty) (ps:List Pa) (vs:List Vl),VsOk ts vs->ts.length=ps.length->d3Q ts ps=true->PsOk ps vs
 |[],[],[],_,_,_=>True.intro
 |t::ts,p::ps,v::vs,h,hl,hf=>by
  simp only[d3Q,g4S] at hf
  obtain⟨f1,f2⟩:=hf
  refine⟨?_,e8V ts ps vs h.2 (by simpa using hl) f2⟩
  have:t.len=p.ty.len:=by
   unfold d3K at f1
   split at f1
   ·cases f1
   ·rename_i c;simpa using c
  rw[<-this];exact h.1
 |[],[],v::vs,h,_,_=>h.elim
 |[],p::ps,_,_,hl,_=>by simp at hl
 |t::ts,[],_,_,hl,_=>by simp at hl
 |t::ts,p::ps,[],h,_,_=>h.elim
theorem e8W (b:Bool):0<=e8M b:=by unfold e8M;split <;> decide
theorem e8X {c:Prop} [Decidable c] {a b:Int} (h:0<=a) (h':0<=b):0<=if c then a else b:=by split <;> assumption
theorem e8Y {O:Ops} (hO:O.Nn) {op val:Int} {x:List Int} (hv:0<=val) (hx:∀ n,n∈x->0<=n):0<=e8N O op val x:=by
 have h0:=e8U hx 0
 have h1:=e8U hx 1
 have z1:(0:Int)<=1:=by decide
 unfold e8N
 exact e8X (hO.red _ hv) (e8X z1 (e8X (hO.neg _ h0) (e8X (hO.sub _ _ z1 h0) (e8X (hO.mul _ _ h0 h1) (e8X (hO.add _ _ h0 h1) (e8X (hO.sub _ _ h0 h1) (e8X (hO.sub _ _ (hO.add _ _ h0 h1) (hO.mul _ _ h0 h1)) (e8X (e8W _) (e8X (e8W _) (e8X (e8W _) (e8X (e8W _) (Int.le_refl _))))))))))))
theorem e8Z {p:Ty->Bool} {l:List Ty} {r:Ty} (h:(d3P p l r).2=0):(d3P p l r).1=r:=by
 unfold d3P at h ⊢
 split at h
 ·rename_i c;rw[if_pos c]
 ·cases h
theorem e9A {x y:Ty} {w:Int} (h:(d3V x y w).1.2=0):(d3V x y w).1.1.len=0:=by
 unfold d3V at h ⊢
 split at h
 ·cases h
 ·rename_i c;rw[if_neg c];rfl
theorem b0A {O:Ops} (hO:O.Nn) {Φ:Fi} {fs:Fs} (hΦ:FiOk fs Φ) {ns:Ns} {op val:Int} {nm:Nm} {ts:List Ty} {vs:List Vl} {w:Int} {fl:Bool} (hv:0<=val) (h2:op≠2) (h8:op≠8) (hl:ts.length<=B47) (hB:opB op (ts.length:Int) val nm=true) (h:VsOk ts vs) (he:(opM fs ns op val nm ts w).1.2=0) :
  VOk (opM fs ns op val nm ts w).1.1.len (opV O Φ op val nm vs fl).1:=by
 have sc:∀ t:Ty,t.len=0->(h5:op≠5)->(h6:op≠6)->(h7:op≠7)->(h20:op≠20)->VOk t.len (opV O Φ op val nm vs fl).1:=by
  intro t ht h5 h6 h7 h20
  unfold opV
  rw[if_neg h5,if_neg h6,if_neg h7,if_neg h20,ht]
  exact VOk.one (e8Y hO hv h.fsts)
 unfold opM at he ⊢
 by_cases c1:op=1
 ·rw[if_pos c1]
  refine sc _ ?_ (by omega) (by omega) (by omega) (by omega)
  show(d3M val).len=0
  unfold d3M
  split <;> rfl
 rw[if_neg c1] at he ⊢
 by_cases c3:op=3\/op=4
 ·rw[if_pos c3]
  exact sc _ rfl (by omega) (by omega) (by omega) (by omega)
 rw[if_neg c3,if_neg h2] at he ⊢
 by_cases c5:op=5
 ·rw[if_pos c5] at he ⊢
  unfold opV
  rw[if_pos c5]
  simp only at he ⊢
  unfold d3R at he ⊢
  cases hf:look nm fs with
  |none=>rw[hf] at he;cases he
  |some f =>
   rw[hf] at he
   simp only at he ⊢
   split at he
   ·cases he
   ·rename_i c
    split at he
    ·rename_i cf
     rw[if_neg c,if_pos cf]
     exact hΦ nm f hf vs fl (e8V ts f.params vs h (by omega) cf)
    ·cases he
 rw[if_neg c5] at he ⊢
 by_cases c6:op=6
 ·rw[if_pos c6] at he ⊢
  simp only at he ⊢
  split at he
  ·cases he
  ·rename_i c
   rw[if_neg c,e8Z he]
   unfold opV
   rw[if_neg c5,if_pos c6]
   exact VOk.one (hO.hash _ _ hv h.fsts)
 rw[if_neg c6] at he ⊢
 by_cases c7:op=7
 ·rw[if_pos c7] at he ⊢
  simp only at he ⊢
  unfold opV
  rw[if_neg c5,if_neg c6,if_pos c7]
  unfold d3T at he ⊢
  match ts,h,he,hl with
  |[],_,he,_=>cases he
  |a::r,h,he,hl =>
   simp only at he ⊢
   cases hg:d3S a (a::r) a with
   |none=>rw[hg] at he;cases he
   |some x =>
    have hlen:=h.len
    refine⟨by simp only;omega,by simp only;omega,?_,h.fsts⟩
    show(((vs.map Ky.fst).length:Nat):Int)=_
    rw[g5Y,hlen]
    unfold e8S
    rw[if_neg (by simp only[g5X];omega)]
 rw[if_neg c7] at he ⊢
 by_cases c20:op=20
 ·rw[if_pos c20] at he ⊢
  simp only at he ⊢
  have h3:ts.length=3:=by
   subst c20
   unfold opB at hB
   simp at hB
   omega
  have v1:=h.at 1 (by omega)
  have v2:=h.at 2 (by omega)
  unfold opV
  rw[if_neg c5,if_neg c6,if_neg c7,if_pos c20]
  unfold d3U at he ⊢
  split at he
  ·cases he
  ·rename_i ca
   rw[if_neg ca]
   split at he
   ·rename_i cb
    rw[if_pos cb]
    rw[<-cb] at v2
    simp only
    split <;> assumption
   ·rename_i cb
    rw[if_neg cb]
    split at he
    ·rename_i cc
     rw[if_pos cc]
     simp only[g4S,d3N,g7L] at cc
     rw[cc.1] at v1
     rw[cc.2] at v2
     simp only
     show VOk 0 _
     split <;> assumption
    ·cases he
 rw[if_neg c20] at he ⊢
 by_cases c14:op=14\/op=15
 ·rw[if_pos c14] at he ⊢
  simp only at he ⊢
  rw[e8Z he]
  exact sc d1G rfl c5 c6 c7 c20
 rw[if_neg c14] at he ⊢
 by_cases c16:op=16\/op=17
 ·rw[if_pos c16] at he ⊢
  rw[e9A he]
  exact sc d1G rfl c5 c6 c7 c20
 rw[if_neg c16] at he ⊢
 by_cases c10:op=10\/op=18\/op=19
 ·rw[if_pos c10] at he ⊢
  simp only at he ⊢
  rw[e8Z he]
  exact sc d1G rfl c5 c6 c7 c20
 rw[if_neg c10] at he ⊢
 simp only at he ⊢
 rw[e8Z he]
 exact sc fieldT rfl c5 c6 c7 c20
theorem e9B (fs:Fs) (ns:Ns):∀ (l:List Exp) (w:Int),(d3Y fs ns l w).1.2=0->(d3Y fs ns l w).1.1.length=l.length:=by
 intro l
 induction l with
 |nil=>intro w _;rw[d3Y];rfl
 |cons a r ih =>
  intro w
  rw[d5Y]
  split
  ·intro h;contradiction
  ·split
   ·intro h;contradiction
   ·rename_i h2
    intro _
    simp [ih _ (by simpa using h2)]
theorem e9C {e:Exp} (h:ExpOk e):0<=e.val/\e.args.length<=B47/\∀ a,a∈e.args->ExpOk a:=by
 cases h with|mk _ h1 h2 h3 h4 h5 h=>exact⟨h2.1,h4,h⟩
theorem e9D {e:Exp} (h:exB e=true):(∀ a,a∈e.args->exB a=true)/\opB e.op (e.args.length:Int) e.val e.name=true:=by
 rw[d2T,g4S,g5A] at h
 exact h
theorem e9E {ns:Ns} {r:Rt×Int} {b:Exp} (h:(d3X ns r b).1.2=0):r.1.2=0/\d3W ns b r.1.1.len=(true,0)/\r.1.1.len≠0/\(d3X ns r b).1.1.len=0:=by
 unfold d3X at h ⊢
 by_cases c1:r.1.2≠0
 ·rw[if_pos c1] at h;exact absurd h c1
 rw[if_neg c1] at h ⊢
 simp only at h ⊢
 by_cases c2:(d3W ns b r.1.1.len).2≠0
 ·rw[if_pos c2] at h;exact absurd h c2
 rw[if_neg c2] at h ⊢
 by_cases c3:r.1.1.len=0
 ·rw[if_pos c3] at h;cases h
 rw[if_neg c3] at h ⊢
 by_cases c4:(d3W ns b r.1.1.len).1=false
 ·rw[if_pos c4] at h;cases h
 rw[if_neg c4] at h ⊢
 refine⟨by simpa using c1,?_,c3,rfl⟩
 exact Prod.ext (by simpa using c4) (by simpa using c2)
theorem e9F {ns:Ns} {sc:Sc} (hsc:ScOk ns sc) {b:Exp} {n:Int} (hb:ExpOk b) (h0:0<=n) (h1:n<=B47) (h:d3W ns b n=(true,0)):0<=e8O b sc/\e8O b sc < n:=by
 have hB:B47=140737488355328:=rfl
 rw[hB] at h1
 have hw:IntKind.u64.wrap n=n:=IntWalk.u64_in _ (by omega)
 unfold d3W at h
 simp only[hw] at h
 have hv:U64 b.val:=by cases hb with|mk _ h1 h2 h3 h4 h5 h=>exact h2
 unfold U64 at hv
 by_cases c1:b.op=1
 ·rw[if_pos c1] at h
  have h:=(Prod.mk.inj h).1
  simp at h
  unfold e8O
  rw[if_neg (by omega),if_neg (by omega),if_neg (by omega),IntWalk.i64_in _ (by omega)]
  omega
 rw[if_neg c1] at h
 by_cases c2:(b.op=12\/b.op=13)/\(b.args.getD 1 default).op≠1
 ·rw[if_pos c2] at h;cases h
 rw[if_neg c2] at h
 have hoff:U64 (b.args.getD 1 default).val:=by
  rw[List.getD_eq_getElem?_getD]
  cases hi:b.args[1]? with
  |none=>exact⟨by decide,by decide⟩
  |some a =>
   have:ExpOk a:=(e9C hb).2.2 a (g6K hi)
   cases this with|mk _ h1 h2 h3 h4 h5 h=>exact h2
 unfold U64 at hoff
 have look_of:∀ (e:Exp) (s:Sy),look e.name ns=some s->s.loop=true->0<=s.low/\s.high<=1000000/\s.low<=(lkV e.name sc).num/\(lkV e.name sc).num < s.high:=by
  intro e s hs hl
  obtain⟨v,k1,k2,k3⟩:=hsc _ _ hs
  unfold lkV
  rw[k1]
  exact k3 hl
 by_cases c12:b.op=12\/b.op=13
 ·simp only[c12,if_true] at h
  split at h
  ·cases h
  ·split at h
   ·cases h
   ·rename_i s hs
    split at h
    ·cases h
    ·rename_i hl
     obtain⟨g1,g2,g3,g4⟩:=look_of _ s hs (by simpa using hl)
     rw[if_neg (by omega)] at h
     have w1:IntKind.i64.wrap (s.high - 1)=s.high - 1:=IntWalk.i64_in _ (by omega)
     have w2:IntKind.u64.wrap (s.high - 1)=s.high - 1:=IntWalk.u64_in _ (by omega)
     have w3:IntKind.u64.wrap s.low=s.low:=IntWalk.u64_in _ (by omega)
     simp only[w1,w2,w3] at h
     unfold e8O
     rw[if_neg (by omega)]
     by_cases c13:b.op=13
     ·rw[if_neg (by omega),if_pos c13]
      rw[if_pos c13] at h
      have h:=(Prod.mk.inj h).1
      simp only[g4S,g7L] at h
      rw[IntWalk.u64_in _ (by omega)] at h
      rw[IntWalk.i64_in (b.args.getD 1 default).val (by omega),IntWalk.i64_in _ (by omega)]
      omega
     ·rw[if_pos (by omega)]
      rw[if_neg c13] at h
      have h:=(Prod.mk.inj h).1
      simp only[g4S,g7L] at h
      rw[IntWalk.u64_in _ (by omega)] at h
      rw[IntWalk.i64_in (b.args.getD 1 default).val (by omega),IntWalk.i64_in _ (by omega)]
      omega
 ·simp only[c12,if_false] at h
  split at h
  ·cases h
  ·rename_i cn
   split at h
   ·cases h
   ·rename_i s hs
    split at h
    ·cases h
    ·rename_i hl
     obtain⟨g1,g2,g3,g4⟩:=look_of _ s hs (by simpa using hl)
     rw[if_neg (by omega)] at h
     have w1:IntKind.i64.wrap (s.high - 1)=s.high - 1:=IntWalk.i64_in _ (by omega)
     have w2:IntKind.u64.wrap (s.high - 1)=s.high - 1:=IntWalk.u64_in _ (by omega)
     have w3:IntKind.u64.wrap s.low=s.low:=IntWalk.u64_in _ (by omega)
     simp only[w1,w2,w3] at h
     unfold e8O
     rw[if_pos (by omega)]
     rw[if_neg (by omega)] at h
     have h:=(Prod.mk.inj h).1
     simp only[g4S,g7L,Int.add_zero,w2] at h
     omega
end Go.Ky

/- KX 73: statements, functions, inputs keep the names' values right. -/
namespace Go.Ky
open Go.Pi Go.Lx
theorem e9G {α:Type} (k:Nm) (s:α):look k [(k,s)]=some s:=by rw[look,if_pos rfl]
theorem e9H {α:Type} {k nm:Nm} (h:k≠nm) (s:α):look k [(nm,s)]=none:=by rw[look,if_neg h,look]
theorem ScOk.sub {ns r:Ns} {sc:Sc} (h:ScOk (ns++r) sc):ScOk ns sc:=by
 intro nm s hs
 refine h nm s ?_
 rw[d5B,hs]
theorem ScOk.new {ns:Ns} {sc:Sc} (h:ScOk ns sc) {nm:Nm} (hn:look nm ns=none) {s:Sy} {v:Vl} (hv:VOk s.typ.len v) (hl:s.loop=true->0<=s.low/\s.high<=1000000/\s.low<=v.num/\v.num < s.high):ScOk (ns++[(nm,s)]) (e8L nm v sc):=by
 intro k t ht
 rw[d5B] at ht
 rw[e8T]
 by_cases hk:k=nm
 ·subst hk
  rw[hn] at ht
  simp only[e9G] at ht
  rw[if_pos rfl]
  have:t=s:=by simpa using ht.symm
  subst this
  exact⟨v,rfl,hv,hl⟩
 ·rw[if_neg hk]
  cases hb:look k ns with
  |some x =>
   rw[hb] at ht
   have:x=t:=by simpa using ht
   subst this
   exact h k x hb
  |none =>
   rw[hb] at ht
   simp only[e9H hk] at ht
   cases ht
theorem e9I {nm:Nm} {s:Sy} {ns:Ns} {w:Int} (h:(d4A nm s ns w).1=0):look nm ns=none:=by
 unfold d4A at h
 cases hl:look nm ns with
 |none=>rfl
 |some x=>rw[hl] at h;cases h
theorem e9J {t:Ty} (h:tyB t=true):0<=t.len/\t.len<=64:=by
 unfold tyB at h
 split at h
 ·cases h
 ·omega
theorem e9K {t u:Ty} (h:d3K t u=true):t.len=u.len:=by
 unfold d3K at h
 split at h
 ·cases h
 ·rename_i c;simpa using c
theorem e9L {s:St} (h:stB s=true) (h3:s.kind≠3) (h2:s.kind≠2):s.kind=1:=by
 rw[d2Z] at h
 by_cases h1:s.kind=1
 ·exact h1
 ·rw[if_neg h1,if_neg h2,if_neg h3] at h;cases h
theorem ScOk.nil:ScOk [] []:=λnm s h=>by cases h
theorem e9M {fs:Fs} {f:Fu} {w:Int} (h:(d4G fs f w).1=0):look f.name fs=none/\(d4G fs f w).2.1=fs++[(f.name,f)]/\(d4F f.params [] w).1=0/\(d4C fs f.body (d4F f.params [] w).2.1 (d4F f.params [] w).2.2).1=0 /\
  (exM fs (d4C fs f.body (d4F f.params [] w).2.1 (d4F f.params [] w).2.2).2.1 f.ret (d4C fs f.body (d4F f.params [] w).2.1 (d4F f.params [] w).2.2).2.2).1.2=0 /\
  d3K (exM fs (d4C fs f.body (d4F f.params [] w).2.1 (d4F f.params [] w).2.2).2.1 f.ret (d4C fs f.body (d4F f.params [] w).2.1 (d4F f.params [] w).2.2).2.2).1.1 f.res=true:=by
 cases hl:look f.name fs with
 |some x=>rw[d6V _ _ _ hl] at h;cases h
 |none =>
  rw[d6U _ _ _ hl] at h ⊢
  by_cases c1:(d4F f.params [] w).1≠0
  ·rw[if_pos c1] at h;exact absurd h c1
  rw[if_neg c1] at h ⊢
  by_cases c2:(d4C fs f.body (d4F f.params [] w).2.1 (d4F f.params [] w).2.2).1≠0
  ·rw[if_pos c2] at h;exact absurd h c2
  rw[if_neg c2] at h ⊢
  by_cases c3:(exM fs (d4C fs f.body (d4F f.params [] w).2.1 (d4F f.params [] w).2.2).2.1 f.ret (d4C fs f.body (d4F f.params [] w).2.1 (d4F f.params [] w).2.2).2.2).1.2≠0
  ·rw[if_pos c3] at h;exact absurd h c3
  rw[if_neg c3] at h ⊢
  cases c4:d3K (exM fs (d4C fs f.body (d4F f.params [] w).2.1 (d4F f.params [] w).2.2).2.1 f.ret (d4C fs f.body (d4F f.params [] w).2.1 (d4F f.params [] w).2.2).2.2).1.1 f.res with
  |false=>rw[c4,if_pos rfl] at h;cases h
  |true =>
   rw[if_neg (by simp)]
   exact⟨rfl,rfl,by simpa using c1,by simpa using c2,by simpa using c3,rfl⟩
theorem e9N {f:Fu} (h:fuB f=true):tyB f.res=true/\(∀ s,s∈f.body->stB s=true)/\exB f.ret=true:=by
 unfold fuB at h
 simp only[g4S,g5A] at h
 exact⟨h.1.1.2,h.1.2,h.2⟩
theorem FiOk.nil:FiOk [] fi0:=λnm f h=>by cases h
def e9O:List De->Bool->Nat
 |[],_=>0
 |d::r,b=>(if d.pub=b then (e8S d.ty.len).toNat else 0)+e9O r b
theorem e9P {n:Int} (h:0<=n):mx n 1=e8S n:=by
 unfold mx e8S
 by_cases c:n < 1
 ·rw[if_pos c] <;> rfl
 ·rw[if_neg c] <;> rfl
theorem e9Q:∀ (l:List De) (a b:Int),(∀ d,d∈l->tyB d.ty=true)->0<=a->0<=b->a+64 * l.length<=1000000000000->b+64 * l.length<=1000000000000->d7V l a b=(a+e9O l true,b+e9O l false):=by
 intro l
 induction l with
 |nil=>intro a b _ _ _ _ _;simp [d7V,e9O]
 |cons d r ih =>
  intro a b hl ha hb ha2 hb2
  obtain⟨t1,t2⟩:=e9J (hl d (by simp))
  have hr:∀ x,x∈r->tyB x.ty=true:=λx hx=>hl x (by simp [hx])
  rw[g5X] at ha2 hb2
  have hm:=e9P t1
  have hm2:1<=e8S d.ty.len/\e8S d.ty.len<=64:=by unfold e8S;split <;> omega
  rw[d7V,hm,e9O,e9O]
  cases hp:d.pub with
  |true =>
   rw[if_pos rfl,if_pos rfl,if_neg (by simp),IntWalk.i64_in _ (by omega),ih _ _ hr (by omega) hb (by omega) (by omega)]
   refine Prod.ext ?_ ?_
   ·simp only;omega
   ·simp only;omega
  |false =>
   rw[if_neg (by simp),if_neg (by simp),if_pos rfl,IntWalk.i64_in _ (by omega),ih _ _ hr ha (by omega) (by omega) (by omega)]
   refine Prod.ext ?_ ?_
   ·simp only;omega
   ·simp only;omega
end Go.Ky

/- KX 74: PLAIN LAW of SemanticsSwap: two asserts at the end change places. -/
namespace Go.Ky
open Go.Pi Go.Lx
end Go.Ky

/- KX 75: values as trees. -/
namespace Go.Ky
open Go.Pi Go.Lx
abbrev uL (l:List Int):List (List T):=l.map λn=>[.int .u64 n]
end Go.Ky

/- KX 76: a slice of numbers that is filled. -/
namespace Go.Ky
open Go.Pi Go.Lx
end Go.Ky

/- KX 77: a map's entries, one put over an older one. -/
namespace Go.Ky
open Go.Pi Go.Lx
theorem e9R {α:Type} (enc:α->T) (k:Nm) (v:α) (l:List (Nm×α)):a0U 2 (.str k) (enc v) (d4V enc l)=d4V enc (e8L k v l):=by
 induction l with
 |nil=>rfl
 |cons p r ih =>
  obtain⟨j,x⟩:=p
  show a0U 2 (.str k) (enc v) (.tup [.t (.str j),.t (enc x)]::d4V _ r)=_
  simp only[a0U,d4W,e8L]
  by_cases h:k=j
  ·subst h;simp [d4V]
  ·simp only[g7I h,if_neg h,ih]
   simp [d4V]
def e9S:List Fu->Fs->Fs
 |[],l=>l
 |f::r,l=>e9S r (e8L f.name f l)
theorem e9T {α:Type} {k:Nm} {v:α}:∀ {l:List (Nm×α)},Ky.look k l=none->e8L k v l=l++[(k,v)]
 |[],_=>rfl
 |(j,m)::r,h=>by
  simp only[Ky.look] at h
  split at h
  ·cases h
  ·rename_i hk
   rw[e8L,if_neg hk,e9T h];rfl
theorem e9U:∀ (l:List Fu) (fs:Fs) (w:Int),(d4H l fs w).1=0->e9S l fs=(d4H l fs w).2.1:=by
 intro l
 induction l with
 |nil=>intro fs w _;rw[d4H,e9S]
 |cons f r ih =>
  intro fs w he
  rw[d6W] at he ⊢
  by_cases c:(d4G fs f w).1≠0
  ·rw[if_pos c] at he;exact absurd he c
  rw[if_neg c] at he ⊢
  obtain⟨h1,h2,_⟩:=e9M (show(d4G fs f w).1=0 by simpa using c)
  rw[h2] at he ⊢
  rw[e9S,e9T h1]
  exact ih _ _ he
end Go.Ky

/- KX 78: a slice of values that is filled. -/
namespace Go.Ky
open Go.Pi Go.Lx
abbrev c3 (v:Vl):List PV:=[.t (.sl false (uL v.els)),.t (.bool v.arr),.t (.int .i64 v.num)]
end Go.Ky

/- KX 79: what the checker has said of a statement that is executed. -/
namespace Go.Ky
open Go.Pi Go.Lx
theorem e9V {fs:Fs} {s:St} {ns:Ns} {w:Int} (h3:s.kind≠3) (h:(stM fs s ns w).1=0):(exM fs ns s.ex w).1.2=0:=by
 rw[d6K h3] at h
 by_cases c:(exM fs ns s.ex w).1.2≠0
 ·rw[if_pos c] at h;exact absurd h c
 ·simpa using c
theorem e9W {fs:Fs} {s:St} {ns:Ns} {w:Int} (h3:s.kind≠3) (h2:s.kind≠2) (ht:s.typed=true) (hB:stB s=true) (h:(stM fs s ns w).1=0):(exM fs ns s.ex w).1.1.len=s.ty.len/\tyB s.ty=true:=by
 have h1:=e9L hB h3 h2
 have he:=e9V h3 h
 rw[d6K h3,if_neg (by simpa using he),if_neg h2,if_pos ht] at h
 refine⟨?_,?_⟩
 ·split at h
  ·cases h
  ·rename_i c
   by_cases c0:s.ty.len=0
   ·rw[c0]
    exact Decidable.byContradiction λe=>c (.inl ⟨c0,e⟩)
   ·refine e9K ?_
    cases hf:d3K (exM fs ns s.ex w).1.1 s.ty with
    |true=>rfl
    |false=>exact absurd (.inr ⟨c0,hf⟩) c
 ·rw[d2Z,if_pos h1,ht] at hB
  simp only[g4S] at hB
  have:=hB.1.1.1.1.1
  simpa using this
theorem e9X {t:Ty} (h:tyB t=true):t.kind=3->0<=t.bits/\t.bits<=62:=by
 intro h3
 unfold tyB at h
 split at h
 ·cases h
 ·simp only[h3,g4S,g7L] at h
  simp at h
  omega
theorem e9Y {fs:Fs} {s:St} {ns:Ns} {w:Int} (h3:s.kind=3) (hB:stB s=true) (he:(stM fs s ns w).1=0):Ky.look s.name ns=none/\0<=s.lo/\s.lo<=s.hi/\s.hi<=1000000/\(d4C fs s.body (ns++[(s.name,⟨fieldT,true,s.lo,s.hi⟩)]) w).1=0:=by
 have hlk:=d7L fs s hB ns w he
 rw[d7A,if_pos h3] at hlk
 simp only[g4S,g7L] at hlk
 obtain⟨⟨⟨l1,l2⟩,l3⟩,-⟩:=hlk
 rw[d6J h3] at he
 have cg:¬s.lo > s.hi:=by omega
 rw[if_neg cg] at he
 by_cases c1:(d4A s.name ⟨fieldT,true,s.lo,s.hi⟩ ns w).1≠0
 ·rw[if_pos c1] at he;exact absurd he c1
 rw[if_neg c1] at he
 have c1':(d4A s.name ⟨fieldT,true,s.lo,s.hi⟩ ns w).1=0:=by simpa using c1
 have hnew:=e9I c1'
 rw[d6E c1'] at he
 simp only at he
 by_cases c2:(d4C fs s.body (ns++[(s.name,⟨fieldT,true,s.lo,s.hi⟩)]) w).1≠0
 ·rw[if_pos c2] at he;exact absurd he c2
 exact⟨hnew,l1,by omega,l3,by simpa using c2⟩
theorem e9Z {fs:Fs} {s:St} {r:List St} {ns:Ns} {w:Int} (h:(d4C fs (s::r) ns w).1=0):(stM fs s ns w).1=0/\(d4C fs r (stM fs s ns w).2.1 (stM fs s ns w).2.2).1=0:=by
 rw[d6G] at h
 by_cases c:(stM fs s ns w).1≠0
 ·rw[if_pos c] at h;exact absurd h c
 ·rw[if_neg c] at h;exact⟨by simpa using c,h⟩
theorem f0A:∀ (l:List Fu) (fs:Fs) (w:Int),(d4H l fs w).1=0->∀ nm f,Ky.look nm fs=some f->Ky.look nm (d4H l fs w).2.1=some f:=by
 intro l
 induction l with
 |nil=>intro fs w _ nm f h;rw[d4H];exact h
 |cons g r ih =>
  intro fs w he nm f h
  rw[d6W] at he ⊢
  by_cases c:(d4G fs g w).1≠0
  ·rw[if_pos c] at he;exact absurd he c
  rw[if_neg c] at he ⊢
  obtain⟨h1,h2,_⟩:=e9M (show(d4G fs g w).1=0 by simpa using c)
  refine ih _ _ he nm f ?_
  rw[h2,d5B,h]
end Go.Ky

/- KX 80: slices of numbers, the inputs of a run, rounds of loops. -/
namespace Go.Ky
open Go.Pi Go.Lx
theorem f0B {b:Int} (h0:0<=b) (h1:b<=63):IntKind.u64.wrap (1 * 2 ^ min b.toNat IntKind.u64.bits)=2 ^ b.toNat:=by
 have hm:min b.toNat IntKind.u64.bits=b.toNat:=by
  have:IntKind.u64.bits=64:=rfl
  omega
 rw[hm,Int.one_mul]
 have h2:(2:Nat) ^ b.toNat<=9223372036854775808:=Nat.pow_le_pow_right (n:=2) (by decide) (show b.toNat<=63 by omega)
 have e:(2:Int) ^ b.toNat=((2 ^ b.toNat:Nat):Int):=by push_cast;rfl
 rw[e]
 generalize (2:Nat) ^ b.toNat=x at *
 exact IntWalk.u64_in _ (by omega)
def tmV (lo hi:Int):Int:=if IntKind.u64.wrap (IntKind.u64.wrap hi - IntKind.u64.wrap lo) > 1000000 then 1000000 else IntKind.u64.wrap (IntKind.u64.wrap hi - IntKind.u64.wrap lo)
def mn6 (x:Int):Int:=if 1000000 < x then 1000000 else x
mutual
def rd1:St->Int->Int
 |.mk k _ _ _ _ lo hi _ l,n=>if k≠3\/hi<=lo then n else mn6 (IntKind.i64.wrap (n+IntKind.i64.wrap (IntKind.i64.wrap (tmV lo hi) * IntKind.i64.wrap (1+rdM l 0))))
def rdM:List St->Int->Int
 |[],n=>n
 |s::r,n=>rdM r (rd1 s n)
end
theorem f0C (s:St) (n:Int):rd1 s n=if s.kind≠3\/s.hi<=s.lo then n else mn6 (IntKind.i64.wrap (n+IntKind.i64.wrap (IntKind.i64.wrap (tmV s.lo s.hi) * IntKind.i64.wrap (1+rdM s.body 0)))):=by
 cases s;rw[rd1];rfl
theorem f0D (s:St) (r:List St) (n:Int):rdM (s::r) n=rdM r (rd1 s n):=by rw[rdM]
def rdG:List Fu->Int->Int
 |[],n=>n
 |f::r,n=>rdG r (if rdM f.body 0 > n then rdM f.body 0 else n)
def rdP (p:Pg):Int:=rdG p.funcs (rdM p.body 0)
end Go.Ky
