/- KX 20: the reference's checker of types, in plain words. -/
import Derived.Test.YtdjcnfacjfnakaaGreatKx19
import Derived.Test.YtdjcnfacjfnakaaGreatKx19
set_option linter.unusedVariables false
namespace Go.Ky
open Go.Pi Go.Lx
def e3Z (n:Int):Int:=if n > 20000 then 20001 else n
def grM (a b:Int):Int:=if a > b then a else b
def e4A (n s:Int):Int:=if n=0\/s=0 then 0 else if n > 20000 then 20001 else e3Z (IntKind.i64.wrap (n * s))
def e4B (t:Ty):Int:=if t.kind=3 then t.bits else 0
def elM (t:Ty):Int:=if t.len=0 then 1 else t.len
def e4C (a b:Ty):Bool:=if a=b then true else if a.len≠b.len then false else if b.kind=1 then true else decide (a.kind=3)&&(decide (b.kind=3)&&decide (a.bits<=b.bits))
abbrev e4D (p:Nm×Sy):List T:=[.str p.1,.int .i64 p.2.typ.kind,.int .i64 p.2.typ.bits,.int .i64 p.2.typ.len,.bool p.2.loop,.int .i64 p.2.low,.int .i64 p.2.high]
def e4E (k:Nm):Ns->Nat->Int
 |[],_=>-1
 |p::r,i=>if p.1=k then (i:Int) else e4E k r (i+1)
theorem e4F {k:Nm}:∀ {ns:Ns} {i:Nat},look k ns=none->e4E k ns i=-1
 |[],_,_=>rfl
 |(j,x)::r,i,h=>by
  rw[look] at h
  rw[e4E]
  by_cases hk:k=j
  ·rw[if_pos hk] at h;cases h
  ·rw[if_neg hk] at h
   rw[if_neg (λe=>hk e.symm)]
   exact e4F h
theorem e4G {k:Nm} {s:Sy}:∀ {ns:Ns} {i:Nat},look k ns=some s->∃ j nm,e4E k ns i=((i+j:Nat):Int)/\ns[j]?=some (nm,s)
 |[],_,h=>by cases h
 |(j,x)::r,i,h=>by
  rw[look] at h
  rw[e4E]
  by_cases hk:k=j
  ·rw[if_pos hk] at h
   rw[if_pos hk.symm]
   injection h with h
   exact⟨0,j,rfl,by rw[h];rfl⟩
  ·rw[if_neg hk] at h
   rw[if_neg (λe=>hk e.symm)]
   obtain⟨a,nm,h1,h2⟩:=e4G (i:=i+1) h
   exact⟨a+1,nm,by rw[h1];congr 1;omega,by simpa using h2⟩
theorem e4H {k:Nm} {s:Sy} {ns:Ns} (h:look k ns=some s):∃ j nm,e4E k ns 0=((j:Nat):Int)/\ns[j]?=some (nm,s):=by
 obtain⟨j,nm,h1,h2⟩:=e4G (i:=0) h
 exact⟨j,nm,by rw[h1];congr 1;omega,h2⟩
structure Rr where
 t:Ty
 bits:Int
 steps:Int
 err:Int
abbrev tRr (r:Rr):List T:=[.int .i64 r.t.kind,.int .i64 r.t.bits,.int .i64 r.t.len,.int .i64 r.bits,.int .i64 r.steps,.int .i64 r.err]
abbrev Fz:=List (Fu×Int)
abbrev tFz (p:Fu×Int):List T:=[.str p.1.name,.sl p.1.pnl (p.1.params.map tPa),.int .i64 p.1.res.kind,.int .i64 p.1.res.bits,.int .i64 p.1.res.len,.sl p.1.bnl (d1M p.1.body),.int .i64 p.1.ret.op,.int .u64 p.1.ret.val,.str p.1.ret.name,.sl p.1.ret.nl (d1H p.1.ret.args),.int .i64 p.2]
def e4I (e:Int):Rr:=⟨zTy,0,0,e⟩
def okR (t:Ty):Rr:=⟨t,0,0,0⟩
def zR:Rr:=⟨zTy,0,0,0⟩
def e4J (s:Sy) (b sg len:Int):Int :=
 if s.loop=false then 6
 else if s.low > IntKind.i64.wrap (s.high - 1) then 0
 else if b > 10000000 then 8
 else if IntKind.i64.wrap (s.low+IntKind.i64.wrap (sg * IntKind.i64.wrap b)) < 0\/IntKind.i64.wrap (IntKind.i64.wrap (s.high - 1)+IntKind.i64.wrap (sg * IntKind.i64.wrap b))>=len then 8 else 0
def e4K (ns:Ns) (nm:Nm) (b sg len:Int):Int:=match look nm ns with
 |none=>4
 |some s=>e4J s b sg len
def e4L (ns:Ns) (e:Exp) (len:Int):Int :=
 if e.op=1 then (if e.val>=IntKind.u64.wrap len then 8 else 0)
 else if (e.op=12\/e.op=13)/\(e.args.getD 0 default).op=2/\(e.args.getD 1 default).op=1 then e4K ns (e.args.getD 0 default).name (e.args.getD 1 default).val (if e.op=13 then -1 else 1) len
 else if e.op=2 then e4K ns e.name 0 0 len
 else 6
structure Ac where
 bits:Int
 steps:Int
 sc:Bool
 bo:Bool
 ui:Bool
 sa:Bool
def ac0:Ac:=⟨0,0,true,true,true,true⟩
def acS (f:Ty) (a:Ac) (r:Rr):Ac:=⟨grM a.bits r.bits,e3Z (IntKind.i64.wrap (a.steps+r.steps)),a.sc&&d3N r.t,a.bo&&decide (r.t=d1G),a.ui&&d3N r.t&&decide (r.t.kind=3),a.sa&&decide (r.t=f)⟩
def e4M:List Rr->List Pa->Bool
 |r::l,p::ps=>e4C r.t p.ty&&e4M l ps
 |_,_=>true
def e4N (nm:Nm) (l:List Rr) (a:Ac):Fz->Rr
 |[]=>e4I 4
 |p::r=>if p.1.name≠nm then e4N nm l a r else if (l.length:Int)≠(p.1.params.length:Int) then e4I 6 else if e4M l p.1.params=false then e4I 6 else ⟨p.1.res,a.bits,e3Z (IntKind.i64.wrap (IntKind.i64.wrap (a.steps+1)+p.2)),0⟩
def scR (a:Ac) (r:Rr):Rr:=if a.sc=false then e4I 6 else r
def tyR (l:List Rr) (i:Nat):Ty:=(l.getD i zR).t
def opR (fs:Fz) (op val:Int) (nm:Nm) (l:List Rr) (a:Ac):Rr :=
 if op=5 then e4N nm l a fs
 else if op=6 then (if val>=65536 then e4I 8 else scR a ⟨fieldT,a.bits,a.steps,0⟩)
 else if op=7 then scR a ⟨⟨(if a.sa then tyR l 0 else fieldT).kind,(if a.sa then tyR l 0 else fieldT).bits,(l.length:Int)⟩,a.bits,a.steps,0⟩
 else if op=14\/op=15 then scR a ⟨d1G,a.bits,a.steps,0⟩
 else if op=16\/op=17 then (if a.ui=false then e4I 6 else scR a ⟨d1G,grM a.bits (IntKind.i64.wrap (grM (tyR l 0).bits (tyR l 1).bits+1)),a.steps,0⟩)
 else if op=10\/op=18\/op=19 then (if a.bo=false then e4I 6 else scR a ⟨d1G,a.bits,a.steps,0⟩)
 else if op=20 then (if tyR l 0≠d1G then e4I 6 else if tyR l 1=tyR l 2 then ⟨tyR l 1,a.bits,a.steps,0⟩ else scR a ⟨fieldT,a.bits,a.steps,0⟩)
 else scR a ⟨fieldT,a.bits,a.steps,0⟩
def ixR (ns:Ns) (r:Rr) (b:Exp):Rr :=
 if r.err≠0 then r
 else if r.t.len=0 then (if e4L ns b 1=4 then e4I 4 else e4I 6)
 else if e4L ns b r.t.len≠0 then e4I (e4L ns b r.t.len) else ⟨⟨r.t.kind,r.t.bits,0⟩,r.bits,r.steps,r.err⟩
def acL (l:List Rr):Ac:=l.foldl (acS (tyR l 0)) ac0
mutual
def exR (fs:Fz) (ns:Ns):Exp->Rr
 |.mk op val nm _ l =>
  if op=1 then (if val>=4611686018427387904 then okR fieldT else okR ⟨3,((1+val.toNat.log2:Nat):Int),0⟩)
  else if op=3\/op=4 then okR d1G
  else if op=2 then (match look nm ns with|none=>e4I 4|some s=>okR s.typ)
  else if op=8 then (match l with
   |a::b::_=>ixR ns (exR fs ns a) b
   |_=>e4I 99)
  else if (e4O fs ns l).2≠0 then e4I (e4O fs ns l).2 else opR fs op val nm (e4O fs ns l).1 (acL (e4O fs ns l).1)
def e4O (fs:Fz) (ns:Ns):List Exp->List Rr×Int
 |[]=>([],0)
 |a::r=>if (exR fs ns a).err≠0 then ([],(exR fs ns a).err) else if (e4O fs ns r).2≠0 then ([],(e4O fs ns r).2) else (exR fs ns a::(e4O fs ns r).1,0)
end
theorem e4P (fs:Fz) (ns:Ns) (e:Exp):exR fs ns e =
  if e.op=1 then (if e.val>=4611686018427387904 then okR fieldT else okR ⟨3,((1+e.val.toNat.log2:Nat):Int),0⟩)
  else if e.op=3\/e.op=4 then okR d1G
  else if e.op=2 then (match look e.name ns with|none=>e4I 4|some s=>okR s.typ)
  else if e.op=8 then (match e.args with
   |a::b::_=>ixR ns (exR fs ns a) b
   |_=>e4I 99)
  else if (e4O fs ns e.args).2≠0 then e4I (e4O fs ns e.args).2 else opR fs e.op e.val e.name (e4O fs ns e.args).1 (acL (e4O fs ns e.args).1):=by
 cases e with|mk op v n b l =>
 rcases l with _|⟨x,_|⟨y,r⟩⟩ <;> (simp only[exR];rfl)
theorem e4Q (fs:Fz) (ns:Ns) (a:Exp) (r:List Exp):e4O fs ns (a::r)=if (exR fs ns a).err≠0 then ([],(exR fs ns a).err) else if (e4O fs ns r).2≠0 then ([],(e4O fs ns r).2) else (exR fs ns a::(e4O fs ns r).1,0):=by rw[e4O]
def e4R (nm:Nm) (s:Sy) (out:Rr) (own:Ns):Rr×Ns:=match look nm own with
 |some _=>(e4I 5,[])
 |none=>(out,own++[(nm,s)])
def e4S (nm:Nm) (typed:Bool) (ty:Ty) (r out:Rr) (own:Ns):Rr×Ns :=
 if typed then (if (d3N ty&&!d3N r.t || !d3N ty&&!e4C r.t ty)=true then (e4I 6,[]) else e4R nm ⟨ty,false,0,0⟩ ⟨out.t,grM out.bits (e4B ty),out.steps,out.err⟩ own)
 else e4R nm ⟨r.t,false,0,0⟩ out own
def e4T (out r:Rr):Rr:=⟨out.t,grM out.bits r.bits,e3Z (IntKind.i64.wrap (IntKind.i64.wrap (out.steps+1)+r.steps)),out.err⟩
def e4U (out r:Rr) (n:Int):Rr:=⟨out.t,grM out.bits r.bits,e3Z (IntKind.i64.wrap (out.steps+e4A n r.steps)),out.err⟩
mutual
def stR (fs:Fz):St->Rr->Ns->Rr×Ns
 |.mk k nm typed ty e lo hi _ l,out,own =>
  if k=3 then (if lo > hi then (e4I 8,[]) else match look nm own with
   |some _=>(e4I 5,[])
   |none=>if (e4V fs l zR (own++[(nm,⟨fieldT,true,lo,hi⟩)])).1.err≠0 then ((e4V fs l zR (own++[(nm,⟨fieldT,true,lo,hi⟩)])).1,[])
    else (e4U out (e4V fs l zR (own++[(nm,⟨fieldT,true,lo,hi⟩)])).1 (IntKind.i64.wrap (hi - lo)),own))
  else if (exR fs own e).err≠0 then (exR fs own e,[])
  else if k=2 then (if (exR fs own e).t≠d1G then (e4I 6,[]) else (e4T out (exR fs own e),own))
  else e4S nm typed ty (exR fs own e) (e4T out (exR fs own e)) own
def e4V (fs:Fz):List St->Rr->Ns->Rr×Ns
 |[],out,own=>(out,own)
 |s::r,out,own=>if (stR fs s out own).1.err≠0 then ((stR fs s out own).1,[]) else e4V fs r (stR fs s out own).1 (stR fs s out own).2
end
theorem e4W (fs:Fz) (s:St) (out:Rr) (own:Ns):stR fs s out own =
  if s.kind=3 then (if s.lo > s.hi then (e4I 8,[]) else match look s.name own with
   |some _=>(e4I 5,[])
   |none=>if (e4V fs s.body zR (own++[(s.name,⟨fieldT,true,s.lo,s.hi⟩)])).1.err≠0 then ((e4V fs s.body zR (own++[(s.name,⟨fieldT,true,s.lo,s.hi⟩)])).1,[])
    else (e4U out (e4V fs s.body zR (own++[(s.name,⟨fieldT,true,s.lo,s.hi⟩)])).1 (IntKind.i64.wrap (s.hi - s.lo)),own))
  else if (exR fs own s.ex).err≠0 then (exR fs own s.ex,[])
  else if s.kind=2 then (if (exR fs own s.ex).t≠d1G then (e4I 6,[]) else (e4T out (exR fs own s.ex),own))
  else e4S s.name s.typed s.ty (exR fs own s.ex) (e4T out (exR fs own s.ex)) own:=by
 cases s
 rw[stR];rfl
def e4X:List Pa->Ns->Option Ns
 |[],s=>some s
 |p::r,s=>match look p.name s with
  |some _=>none
  |none=>e4X r (s++[(p.name,⟨p.ty,false,0,0⟩)])
def e4Y (nm:Nm) (fs:Fz):Bool:=fs.any λp=>decide (p.1.name=nm)
def e4Z (fs:Fz) (f:Fu) (b:Int):Int×Fz×Int :=
 if e4Y f.name fs then (5,fs,b) else match e4X f.params [] with
 |none=>(5,fs,b)
 |some s =>
  if (e4V fs f.body zR s).1.err≠0 then ((e4V fs f.body zR s).1.err,fs,b)
  else if (exR fs (e4V fs f.body zR s).2 f.ret).err≠0 then ((exR fs (e4V fs f.body zR s).2 f.ret).err,fs,b)
  else if e4C (exR fs (e4V fs f.body zR s).2 f.ret).t f.res=false then (6,fs,b)
  else (0,fs++[(f,e3Z (IntKind.i64.wrap ((e4V fs f.body zR s).1.steps+(exR fs (e4V fs f.body zR s).2 f.ret).steps)))],grM b (grM (e4V fs f.body zR s).1.bits (exR fs (e4V fs f.body zR s).2 f.ret).bits))
def e5A:List Fu->Fz->Int->Int×Fz×Int
 |[],fs,b=>(0,fs,b)
 |f::r,fs,b=>if (e4Z fs f b).1≠0 then ((e4Z fs f b).1,fs,b) else e5A r (e4Z fs f b).2.1 (e4Z fs f b).2.2
structure Inf where
 err:Int
 bits:Int
 pub:Int
 sec:Int
 steps:Int
abbrev tInf (r:Inf):List T:=[.int .i64 r.err,.int .i64 r.bits,.int .i64 r.pub,.int .i64 r.sec,.int .i64 r.steps]
def e5B (e:Int):Inf:=⟨e,0,0,0,0⟩
def e5C (d:De) (x:Inf):Inf:=⟨x.err,grM x.bits (e4B d.ty),if d.pub then IntKind.i64.wrap (x.pub+elM d.ty) else x.pub,if d.pub then x.sec else IntKind.i64.wrap (x.sec+elM d.ty),x.steps⟩
def e5D:List De->Ns->Inf->Option (Ns×Inf)
 |[],ns,x=>some (ns,x)
 |d::r,ns,x=>match look d.name ns with
  |some _=>none
  |none=>e5D r (ns++[(d.name,⟨d.ty,false,0,0⟩)]) (e5C d x)
def e5E (p:Pg):Inf :=
 if rvP p≠0 then e5B 1
 else if (e5A p.funcs [] 0).1≠0 then e5B (e5A p.funcs [] 0).1
 else match e5D p.decls [] ⟨0,(e5A p.funcs [] 0).2.2,0,0,0⟩ with
 |none=>e5B 5
 |some (ns,x) =>
  if (e4V (e5A p.funcs [] 0).2.1 p.body zR ns).1.err≠0 then e5B (e4V (e5A p.funcs [] 0).2.1 p.body zR ns).1.err
  else if (e4V (e5A p.funcs [] 0).2.1 p.body zR ns).1.steps > 20000 then e5B 3
  else ⟨0,grM x.bits (e4V (e5A p.funcs [] 0).2.1 p.body zR ns).1.bits,x.pub,x.sec,(e4V (e5A p.funcs [] 0).2.1 p.body zR ns).1.steps⟩
end Go.Ky

/- KX 21: the checker and the reference agree upon expressions. -/
set_option linter.unusedSimpArgs false
namespace Go.Ky
open Go.Pi Go.Lx
theorem tf {α:Type} {a b:α}:(if (true=false) then a else b)=b:=if_neg (by simp)
theorem ff {α:Type} {a b:α}:(if (false=false) then a else b)=a:=if_pos rfl
theorem e5F (a b:Int):grM a b=max a b:=by unfold grM;split <;> omega
theorem e5G (a b:Int):mx a b=max a b:=by unfold mx;split <;> omega
theorem e5H (a b:Int):mn a b=min a b:=by unfold mn;split <;> omega
theorem e5I (n:Int):e3Z n=min 20001 n:=by unfold e3Z;split <;> omega
theorem e5J {x:Int} (h:-9000000000000000000<=x) (h2:x<=9000000000000000000):IntKind.wrap .i64 x=x:=IntWalk.i64_in _ (by omega)
theorem e5K (x:Int):IntKind.wrap .u64 x=x % 18446744073709551616:=rfl
structure Gt (t:Ty):Prop where
 k:t.kind=1\/t.kind=2\/t.kind=3
 b:t.kind=2->t.bits=0
 b0:0<=t.bits
 b1:t.bits<=62
 l0:0<=t.len
 l1:t.len<=1100000
theorem e5L {t:Ty} (h:tyB t=true):Gt t:=by
 unfold tyB at h
 split at h
 ·cases h
 ·split at h
  ·have:=g7P h
   exact⟨by omega,λ_=>this,by omega,by omega,by omega,by omega⟩
  ·split at h
   ·simp only[g4S,g7L] at h
    exact⟨by omega,λ_=>by omega,by omega,by omega,by omega,by omega⟩
   ·cases h
theorem e5M:Gt fieldT:=⟨.inl rfl,λ_=>rfl,by decide,by decide,by decide,by decide⟩
theorem e5N:Gt d1G:=⟨.inr (.inl rfl),λ_=>rfl,by decide,by decide,by decide,by decide⟩
theorem e5O {a b:Ty} (h1:a.kind=b.kind) (h2:a.bits=b.bits) (h3:a.len=b.len):a=b:=by
 cases a;cases b;simp_all
theorem e5P {a b:Ty} (ha:Gt a) (hb:Gt b):e4C a b=d3K a b:=by
 unfold e4C d3K
 by_cases h:a=b
 ·subst h
  simp
 ·rw[if_neg h]
  by_cases hl:a.len=b.len
  ·have hl':¬(a.len≠b.len):=λh=>h hl
   rw[if_neg hl',if_neg hl']
   by_cases h1:b.kind=1
   ·rw[if_pos h1,if_pos h1]
   ·rw[if_neg h1,if_neg h1]
    by_cases h3:b.kind=3
    ·rw[h3];simp
    ·have h2:b.kind=2:=by have:=hb.k;omega
     rw[h2]
     by_cases a2:a.kind=2
     ·exact absurd (e5O (a2.trans h2.symm) ((ha.b a2).trans (hb.b h2).symm) hl) h
     ·simp [a2]
  ·rw[if_pos hl,if_pos hl]
def SyG (s:Sy):Prop:=Gt s.typ/\(s.loop=true->0<=s.low/\s.low<=s.high/\s.high<=1000000)
def NsG (ns:Ns):Prop:=∀ p,p∈ns->SyG p.2
theorem e5Q {α:Type} {k:Nm} {x:α}:∀ {l:List (Nm×α)},look k l=some x->(k,x)∈l
 |[],h=>by cases h
 |(j,y)::r,h=>by
  rw[look] at h
  by_cases hk:k=j
  ·rw[if_pos hk] at h
   injection h with h
   simp [hk,h]
  ·rw[if_neg hk] at h
   exact g6I _ (e5Q h)
theorem NsG.look {ns:Ns} (h:NsG ns) {k:Nm} {s:Sy} (hl:Ky.look k ns=some s):SyG s:=h _ (e5Q hl)
theorem NsG.add {ns:Ns} (h:NsG ns) (k:Nm) {s:Sy} (hs:SyG s):NsG (ns++[(k,s)]):=by
 intro p hp
 rcases g6G.1 hp with e|e
 ·exact h p e
 ·rw[g6M.1 e];exact hs
structure EG (e:Exp):Prop where
 b:exB e=true
 o:ExpOk e
 s:szE e<=B20
theorem EG.arg {e a:Exp} (h:EG e) (ha:a∈e.args):EG a:=by
 refine⟨?_,?_,?_⟩
 ·have:=h.b
  rw[d2T,g4S] at this
  exact g5A.1 this.1 a ha
 ·cases h.o with
  |mk _ _ _ _ _ _ h=>exact h a ha
 ·have h1:=h.s
  have h2:=d2L ha
  rw[d2H] at h1
  omega
theorem EG.val {e:Exp} (h:EG e):U64 e.val:=by
 cases h.o with
 |mk _ _ h2=>exact h2
theorem EG.len {e:Exp} (h:EG e):e.args.length<=B20:=by
 have h1:=h.s
 have h2:=d2N e.args
 rw[d2H] at h1
 omega
theorem EG.opB {e:Exp} (h:EG e):Ky.opB e.op (e.args.length:Int) e.val e.name=true:=by
 have:=h.b
 rw[d2T,g4S] at this
 exact this.2
theorem EG.none {e:Exp} (h:EG e) (ho:e.op=1\/e.op=2\/e.op=3\/e.op=4):e.args=[]:=by
 have h2:=h.opB
 have hl:e.args.length=0:=by
  unfold Ky.opB at h2
  rcases ho with ho|ho|ho|ho <;> rw[ho] at h2 <;> simp at h2
  ·rw[h2.1];rfl
  ·rw[h2.1.1];rfl
  ·rw[h2.1.1];rfl
  ·rw[h2.1.1];rfl
 exact List.length_eq_zero_iff.1 hl
theorem EG.some {e:Exp} (h:EG e) (ho:e.op=7):e.args≠[]:=by
 have h2:=h.opB
 intro hn
 rw[hn,ho] at h2
 unfold Ky.opB at h2
 simp at h2
theorem e5R {s:Sy} (hs:SyG s) {b sg L:Int} (hb:0<=b) (hb2:b<=18446744073709551615) (h0:0<=L) (h1:L<=1100000) (hl:s.loop=true) (hlh:s.low≠s.high) :
  (sg=1->(e4J s b sg L=0↔(decide (b < IntKind.u64.wrap L)&&decide (IntKind.u64.wrap (IntKind.u64.wrap (IntKind.i64.wrap (s.high - 1))+b) < IntKind.u64.wrap L))=true)) /\
  (sg=-1->(e4J s b sg L=0↔(decide (b<=IntKind.u64.wrap s.low)&&decide (IntKind.u64.wrap (IntKind.u64.wrap (IntKind.i64.wrap (s.high - 1)) - b) < IntKind.u64.wrap L))=true)) /\
  (sg=0->b=0->(e4J s b sg L=0↔(decide (0 < IntKind.u64.wrap L)&&decide (IntKind.u64.wrap (IntKind.u64.wrap (IntKind.i64.wrap (s.high - 1))+0) < IntKind.u64.wrap L))=true)):=by
 obtain⟨g1,g2,g3⟩:=hs.2 hl
 have e1:IntKind.wrap .i64 (s.high - 1)=s.high - 1:=e5J (by omega) (by omega)
 have e2:IntKind.wrap .u64 L=L:=by rw[e5K];omega
 have e3:IntKind.wrap .u64 (s.high - 1)=s.high - 1:=by rw[e5K];omega
 have e4:IntKind.wrap .u64 s.low=s.low:=by rw[e5K];omega
 unfold e4J
 rw[e1,e2,e3,e4,e5K,e5K,e5K,if_neg (by simp [hl]),if_neg (by omega)]
 simp only[g4S,g7L]
 by_cases hb7:b > 10000000
 ·rw[if_pos hb7]
  refine⟨λ_=>?_,λ_=>?_,λ_ _=>?_⟩ <;> (constructor <;> intro h <;> omega)
 ·rw[if_neg hb7,show IntKind.wrap .i64 b=b from e5J (by omega) (by omega)]
  refine⟨λhs=>?_,λhs=>?_,λhs hb0=>?_⟩
  ·rw[hs,show IntKind.wrap .i64 (1 * b)=b by rw[Int.one_mul];exact e5J (by omega) (by omega),show IntKind.wrap .i64 (s.low+b)=s.low+b from e5J (by omega) (by omega),show IntKind.wrap .i64 (s.high - 1+b)=s.high - 1+b from e5J (by omega) (by omega)]
   split <;> (constructor <;> intro h <;> omega)
  ·rw[hs,show IntKind.wrap .i64 (-1 * b)=-b by rw[e5J (by omega) (by omega)];omega,show IntKind.wrap .i64 (s.low+-b)=s.low+-b from e5J (by omega) (by omega),show IntKind.wrap .i64 (s.high - 1+-b)=s.high - 1+-b from e5J (by omega) (by omega)]
   split <;> (constructor <;> intro h <;> omega)
  ·rw[hs,hb0,show IntKind.wrap .i64 (0 * 0)=0 from rfl,show IntKind.wrap .i64 (s.low+0)=s.low+0 from e5J (by omega) (by omega),show IntKind.wrap .i64 (s.high - 1+0)=s.high - 1+0 from e5J (by omega) (by omega)]
   split <;> (constructor <;> intro h <;> omega)
theorem e5S {s:Sy} (hs:SyG s) {b sg L:Int}:(s.loop=false->e4J s b sg L=6)/\(s.loop=true->s.low=s.high->e4J s b sg L=0):=by
 unfold e4J
 refine⟨λh=>by rw[if_pos h],λh hl=>?_⟩
 obtain⟨g1,g2,g3⟩:=hs.2 h
 rw[if_neg (by simp [h]),e5J (by omega) (by omega),if_pos (by omega)]
theorem e5T {ns:Ns} (hn:NsG ns) {e:Exp} (he:EG e) {L:Int} (h0:0<=L) (h1:L<=1100000):e4L ns e L=0↔((d3W ns e L).2=0/\(d3W ns e L).1=true):=by
 by_cases o1:e.op=1
 ·unfold e4L d3W
  rw[if_pos o1,if_pos o1]
  by_cases h:e.val < IntKind.u64.wrap L
  ·rw[if_neg (by omega)];simp [h]
  ·rw[if_pos (by omega)];simp [h]
 have two:∀ (a b:Exp),e.args=[a,b]->(e.op=12\/e.op=13)->(e4L ns e L=0↔((d3W ns e L).2=0/\(d3W ns e L).1=true)):=by
  intro a b hab ho
  have hbv:=(he.arg (a:=b) (by simp [hab])).val
  by_cases hb:b.op=1
  ·by_cases ha:a.op=2
   ·have hR:e4L ns e L=e4K ns a.name b.val (if e.op=13 then -1 else 1) L:=by
     unfold e4L
     rw[if_neg o1,hab,if_pos ⟨ho,ha,hb⟩];rfl
    rw[hR]
    unfold e4K d3W
    cases hl:look a.name ns with
    |none=>simp [o1,ho,hab,ha,hb,hl]
    |some s =>
     have hs:=hn.look hl
     cases hlo:s.loop with
     |false=>simp [o1,ho,hab,ha,hb,hl,hlo,(e5S hs).1 hlo]
     |true =>
      by_cases hlh:s.low=s.high
      ·have:=(e5S hs (b:=b.val) (sg:=if e.op=13 then -1 else 1) (L:=L)).2 hlo hlh
       simp [o1,ho,hab,ha,hb,hl,hlo,hlh,this]
      ·have hq:=e5R hs hbv.1 hbv.2 h0 h1 hlo hlh (sg:=if e.op=13 then -1 else 1)
       by_cases o13:e.op=13
       ·have hq:=hq.2.1 (by rw[if_pos o13])
        simp only[o13,if_true] at hq
        simp [o13,hab,ha,hb,hl,hlo,hlh,hq]
       ·have o12:e.op=12:=by omega
        have hq:=hq.1 (by rw[if_neg o13])
        simp only[o12,Int.reduceEq,if_false] at hq
        simp [o12,hab,ha,hb,hl,hlo,hlh,hq]
   ·have hR:e4L ns e L=6:=by
     unfold e4L
     rw[if_neg o1,hab,if_neg (by simp [ha]),if_neg (by omega)]
    rw[hR]
    unfold d3W
    simp [o1,ho,hab,ha,hb]
  ·have hR:e4L ns e L=6:=by
    unfold e4L
    rw[if_neg o1,hab,if_neg (by simp [hb]),if_neg (by omega)]
   rw[hR]
   unfold d3W
   simp [o1,ho,hab,hb]
 by_cases ho:e.op=12\/e.op=13
 ·obtain⟨a,b,hab⟩:=d5R he.b (by omega)
  exact two a b hab ho
 by_cases o2:e.op=2
 ·have hR:e4L ns e L=e4K ns e.name 0 0 L:=by
   unfold e4L
   rw[if_neg o1,if_neg (by intro h;exact ho h.1),if_pos o2]
  rw[hR]
  unfold e4K d3W
  cases hl:look e.name ns with
  |none=>simp [o1,ho,o2,hl]
  |some s =>
   have hs:=hn.look hl
   cases hlo:s.loop with
   |false=>simp [o1,ho,o2,hl,hlo,(e5S hs).1 hlo]
   |true =>
    by_cases hlh:s.low=s.high
    ·have:=(e5S hs (b:=0) (sg:=0) (L:=L)).2 hlo hlh
     simp [o1,ho,o2,hl,hlo,hlh,this]
    ·have hq:=(e5R hs (b:=0) (by omega) (by omega) h0 h1 hlo hlh (sg:=0)).2.2 rfl rfl
     simp [o1,ho,o2,hl,hlo,hlh,hq]
 ·have hR:e4L ns e L=6:=by
   unfold e4L
   rw[if_neg o1,if_neg (by intro h;exact ho h.1),if_neg o2]
  rw[hR]
  unfold d3W
  simp [o1,ho,o2]
theorem e5U {ns:Ns} {e:Exp} {L:Int} (h:(d3W ns e L).2=0):e.op=1\/e.op=2\/((e.op=12\/e.op=13)/\(e.args.getD 0 default).op=2/\(e.args.getD 1 default).op=1):=by
 by_cases o1:e.op=1
 ·exact .inl o1
 by_cases ho:e.op=12\/e.op=13
 ·by_cases hb:(e.args.getD 1 default).op=1
  ·by_cases ha:(e.args.getD 0 default).op=2
   ·exact .inr (.inr ⟨ho,ha,hb⟩)
   ·unfold d3W at h
    simp [o1,ho] at h
    simp at ha hb
    simp [ha,hb] at h
  ·unfold d3W at h
   simp [o1,ho] at h
   simp at hb
   simp [hb] at h
 ·by_cases o2:e.op=2
  ·exact .inr (.inl o2)
  ·unfold d3W at h
   simp [o1,ho,o2] at h
theorem e5V {ks:Ks} {e:Exp} (ho:e.op≠5) (ha:e.args=[]):csE ks e=0:=by
 rw[d4M,if_neg ho,ha];rfl
theorem e5W {ns:Ns} {e:Exp} (he:EG e) {L:Int} (h:(d3W ns e L).2=0) (ks:Ks):csE ks e=0:=by
 rcases e5U h with o|o|⟨o,p,q⟩
 ·exact e5V (by omega) (he.none (.inl o))
 ·exact e5V (by omega) (he.none (.inr (.inl o)))
 ·obtain⟨a,b,hab⟩:=d5R he.b (by omega)
  rw[hab] at p q
  have p:a.op=2:=p
  have q:b.op=1:=q
  have ha:=he.arg (a:=a) (by simp [hab])
  have hb:=he.arg (a:=b) (by simp [hab])
  rw[d4M,if_neg (by omega),hab]
  simp only[d4L,e5V (ks:=ks) (show a.op≠5 by omega) (ha.none (.inr (.inl p))),e5V (ks:=ks) (show b.op≠5 by omega) (hb.none (.inl q))]
  rfl
def bsL:List Rr->Int
 |[]=>0
 |r::l=>max r.bits (bsL l)
def skL:List Rr->Int
 |[]=>0
 |r::l=>r.steps+skL l
structure RG (r:Rr):Prop where
 e:r.err=0
 t:Gt r.t
 b0:0<=r.bits
 b1:r.bits<=63
 s0:0<=r.steps
 s1:r.steps<=20001
def RsG (l:List Rr):Prop:=∀ r,r∈l->RG r
theorem e5X:∀ l,0<=bsL l
 |[]=>by rw[bsL];omega
 |r::l=>by rw[bsL];have:=e5X l;omega
theorem e5Y:∀ {l:List Rr},RsG l->bsL l<=63
 |[],_=>by rw[bsL];omega
 |r::l,h=>by rw[bsL];have:=e5Y (l:=l) (λx hx=>h x (by simp [hx]));have:=(h r (by simp)).b1;omega
theorem e5Z:∀ {l:List Rr},RsG l->0<=skL l
 |[],_=>by rw[skL];omega
 |r::l,h=>by rw[skL];have:=e5Z (l:=l) (λx hx=>h x (by simp [hx]));have:=(h r (by simp)).s0;omega
theorem e6A (f:Ty):∀ (l:List Rr) (a:Ac),RsG l->0<=a.steps->a.steps<=20001->0<=a.bits ->
  (l.foldl (acS f) a).bits=max a.bits (bsL l)/\(l.foldl (acS f) a).steps=min 20001 (a.steps+skL l)/\(l.foldl (acS f) a).sc=(a.sc&&l.all λr=>d3N r.t) /\
  (l.foldl (acS f) a).bo=(a.bo&&l.all λr=>decide (r.t=d1G))/\(l.foldl (acS f) a).ui=(a.ui&&l.all λr=>d3N r.t&&decide (r.t.kind=3))/\(l.foldl (acS f) a).sa=(a.sa&&l.all λr=>decide (r.t=f)):=by
 intro l
 induction l with
 |nil =>
  intro a _ h1 h2 h3
  simp only[List.foldl_nil,List.all_nil,Bool.and_true,bsL,skL]
  refine⟨by omega,by omega,?_,?_,?_,?_⟩ <;> trivial
 |cons r l ih =>
  intro a hl h1 h2 h3
  have hr:=hl r (by simp)
  have hr0:=hr.s0
  have hr1:=hr.s1
  have hb0:=hr.b0
  have hl':RsG l:=λx hx=>hl x (by simp [hx])
  have hs:=e5Z hl'
  have hw:e3Z (IntKind.i64.wrap (a.steps+r.steps))=min 20001 (a.steps+r.steps):=by rw[e5J (by omega) (by omega),e5I]
  have h:=ih (acS f a r) hl' (by show 0<=e3Z _;rw[hw];omega) (by show e3Z _<=20001;rw[hw];omega) (by show 0<=grM _ _;rw[e5F];omega)
  rw[List.foldl_cons]
  obtain⟨g1,g2,g3,g4,g5,g6⟩:=h
  refine⟨?_,?_,?_,?_,?_,?_⟩
  ·rw[g1,bsL];show max (grM _ _) _=_;rw[e5F];omega
  ·rw[g2,skL];show min 20001 (e3Z _+_)=_;rw[hw];omega
  ·rw[g3,List.all_cons];show(a.sc&&d3N r.t&&_)=_;rw[Bool.and_assoc]
  ·rw[g4,List.all_cons];show(a.bo&&_&&_)=_;rw[Bool.and_assoc]
  ·rw[g5,List.all_cons];show(a.ui&&d3N r.t&&_&&_)=_;simp only[Bool.and_assoc]
  ·rw[g6,List.all_cons];show(a.sa&&_&&_)=_;rw[Bool.and_assoc]
theorem e6B {l:List Rr} (h:RsG l):acL l=⟨bsL l,min 20001 (skL l),l.all λr=>d3N r.t,l.all λr=>decide (r.t=d1G),l.all λr=>d3N r.t&&decide (r.t.kind=3),l.all λr=>decide (r.t=tyR l 0)⟩:=by
 obtain⟨g1,g2,g3,g4,g5,g6⟩:=e6A (tyR l 0) l ac0 h (by decide) (by decide) (by decide)
 have hb:=e5X l
 have e:acL l=⟨(acL l).bits,(acL l).steps,(acL l).sc,(acL l).bo,(acL l).ui,(acL l).sa⟩:=rfl
 rw[e]
 unfold acL
 rw[g1,g2,g3,g4,g5,g6]
 simp only[ac0,g4X]
 congr 1
 ·omega
 ·omega
structure Rel (fz:Fz) (fs:Fs) (ks:Ks):Prop where
 fs:fs=fz.map λp=>(p.1.name,p.1)
 ks:ks=fz.map λp=>(p.1.name,p.2)
 ok:∀ p,p∈fz->Gt p.1.res/\(∀ q,q∈p.1.params->Gt q.ty)/\0<=p.2/\p.2<=20001
theorem e6C:∀ {l:List Rr} {ps:List Pa},RsG l->(∀ q,q∈ps->Gt q.ty)->d3Q (l.map (·.t)) ps=e4M l ps
 |[],_,_,_=>by simp [d3Q,e4M]
 |_::_,[],_,_=>by simp [d3Q,e4M]
 |r::l,p::ps,h,hp=>by
  rw[g6E,d3Q,e4M,e5P (h r (by simp)).t (hp p (by simp)),e6C (λx hx=>h x (by simp [hx])) (λx hx=>hp x (by simp [hx]))]
theorem e6D {nm:Nm} {l:List Rr} {a:Ac}:∀ {fz:Fz},
  (look nm (fz.map λp=>(p.1.name,p.1))=none/\e4N nm l a fz=e4I 4) \/
  ∃ p,p∈fz/\look nm (fz.map λp=>(p.1.name,p.1))=some p.1/\look nm (fz.map λp=>(p.1.name,p.2))=some p.2 /\
   e4N nm l a fz=if (l.length:Int)≠(p.1.params.length:Int) then e4I 6 else if e4M l p.1.params=false then e4I 6 else ⟨p.1.res,a.bits,e3Z (IntKind.i64.wrap (IntKind.i64.wrap (a.steps+1)+p.2)),0⟩
 |[]=>.inl ⟨rfl,rfl⟩
 |p::r=>by
  by_cases h:p.1.name=nm
  ·refine .inr ⟨p,by simp,?_,?_,?_⟩
   ·rw[g6E,look,if_pos h.symm]
   ·rw[g6E,look,if_pos h.symm]
   ·rw[e4N,if_neg (by simpa using h)]
  ·rw[g6E,look,if_neg (λe=>h e.symm),g6E,look,if_neg (λe=>h e.symm),e4N,if_pos h]
   rcases e6D (nm:=nm) (l:=l) (a:=a) (fz:=r) with g|⟨q,g1,g2⟩
   ·exact .inl g
   ·exact .inr ⟨q,by simp [g1],g2⟩
theorem e6E {s:Sy} (h:s.loop=true) {b sg L:Int}:e4J s b sg L=0\/e4J s b sg L=8:=by
 unfold e4J
 rw[if_neg (by simp [h])]
 split
 ·exact .inl rfl
 ·split
  ·exact .inr rfl
  ·split
   ·exact .inr rfl
   ·exact .inl rfl
structure PosE (a:Bool×Int) (r:Int):Prop where
 ne:a.2≠0->r=a.2
 eq:a.2=0->r=0\/r=8
 v:a.2=0\/a.2=4\/a.2=6
theorem PosE.of4 {a:Bool×Int} {r:Int} (h:a=(false,4)) (h2:r=4):PosE a r:=by
 subst h h2;exact⟨λ_=>rfl,λh=>absurd h (by decide),.inr (.inl rfl)⟩
theorem PosE.of6 {a:Bool×Int} {r:Int} (h:a=(false,6)) (h2:r=6):PosE a r:=by
 subst h h2;exact⟨λ_=>rfl,λh=>absurd h (by decide),.inr (.inr rfl)⟩
theorem PosE.of0 {a:Bool×Int} {r:Int} (h:a.2=0) (h2:r=0\/r=8):PosE a r:=⟨λx=>absurd h x,λ_=>h2,.inl h⟩
theorem e6F {ns:Ns} {e:Exp} (he:EG e) (L:Int):PosE (d3W ns e L) (e4L ns e L):=by
 by_cases o1:e.op=1
 ·unfold e4L d3W
  rw[if_pos o1,if_pos o1]
  refine .of0 rfl ?_
  split
  ·exact .inr rfl
  ·exact .inl rfl
 by_cases ho:e.op=12\/e.op=13
 ·obtain⟨a,b,hab⟩:=d5R he.b (by omega)
  by_cases hb:b.op=1
  ·by_cases ha:a.op=2
   ·have hR:e4L ns e L=e4K ns a.name b.val (if e.op=13 then -1 else 1) L:=by
     unfold e4L
     rw[if_neg o1,hab,if_pos ⟨ho,ha,hb⟩];rfl
    rw[hR]
    cases hl:look a.name ns with
    |none=>exact .of4 (by unfold d3W;simp [o1,ho,hab,ha,hb,hl]) (by unfold e4K;rw[hl])
    |some s =>
     cases hlo:s.loop with
     |false=>exact .of6 (by unfold d3W;simp [o1,ho,hab,ha,hb,hl,hlo]) (by unfold e4K e4J;rw[hl];simp [hlo])
     |true =>
      refine .of0 ?_ (by unfold e4K;rw[hl];exact e6E hlo)
      unfold d3W
      by_cases hlh:s.low=s.high
      ·simp [o1,ho,hab,ha,hb,hl,hlo,hlh]
      ·by_cases o13:e.op=13
       ·simp [o13,hab,ha,hb,hl,hlo,hlh]
       ·have o12:e.op=12:=by omega
        simp [o12,hab,ha,hb,hl,hlo,hlh]
   ·exact .of6 (by unfold d3W;simp [o1,ho,hab,ha,hb]) (by unfold e4L;rw[if_neg o1,hab,if_neg (by simp [ha]),if_neg (by omega)])
  ·exact .of6 (by unfold d3W;simp [o1,ho,hab,hb]) (by unfold e4L;rw[if_neg o1,hab,if_neg (by simp [hb]),if_neg (by omega)])
 by_cases o2:e.op=2
 ·have hR:e4L ns e L=e4K ns e.name 0 0 L:=by
   unfold e4L
   rw[if_neg o1,if_neg (by intro h;exact ho h.1),if_pos o2]
  rw[hR]
  cases hl:look e.name ns with
  |none=>exact .of4 (by unfold d3W;simp [o1,ho,o2,hl]) (by unfold e4K;rw[hl])
  |some s =>
   cases hlo:s.loop with
   |false=>exact .of6 (by unfold d3W;simp [o1,ho,o2,hl,hlo]) (by unfold e4K e4J;rw[hl];simp [hlo])
   |true =>
    refine .of0 ?_ (by unfold e4K;rw[hl];exact e6E hlo)
    unfold d3W
    by_cases hlh:s.low=s.high
    ·simp [o1,ho,o2,hl,hlo,hlh]
    ·simp [o1,ho,o2,hl,hlo,hlh]
 ·exact .of6 (by unfold d3W;simp [o1,ho,o2]) (by unfold e4L;rw[if_neg o1,if_neg (by intro h;exact ho h.1),if_neg o2])
theorem e6G {ns:Ns} {e:Exp} (he:EG e) (L L':Int):(d3W ns e L).2=(d3W ns e L').2:=by
 have h1:=e6F (ns:=ns) he L
 have h2:=e6F (ns:=ns) he L'
 unfold d3W
 simp only
 repeat' split
 all_goals first|rfl|simp
structure Sim (m:Rt×Int) (r:Rr) (w cs:Int):Prop where
 eq:m.1.2=r.err
 val:r.err=0->m.1.1=r.t/\m.2=max w r.bits/\r.steps=cs/\RG r
theorem Sim.err {m:Rt×Int} {r:Rr} {w cs:Int} (h:Sim m r w cs):m.1.2=0↔r.err=0:=by rw[h.eq]
theorem Sim.bad {t:Ty} {e w' w cs:Int} {r:Rr} (h:e≠0) (h2:e=r.err):Sim ((t,e),w') r w cs:=⟨h2,λx=>absurd (h2.trans x) h⟩
theorem Sim.ok {t:Ty} {w' w cs b s:Int} (hw:w'=max w b) (hs:s=cs) (ht:Gt t) (hb:0<=b) (h0:0<=s) (h1:s<=20001) (hb1:b<=63):Sim ((t,0),w') ⟨t,b,s,0⟩ w cs :=
 ⟨rfl,λ_=>⟨rfl,hw,hs,rfl,ht,hb,hb1,h0,h1⟩⟩
theorem e6H {n:Int} (h0:0<=n) (h1:n < 4611686018427387904):d3M n=⟨3,((1+n.toNat.log2:Nat):Int),0⟩:=by
 unfold d3M d3L
 rw[if_neg (by omega)]
 by_cases hz:n=0
 ·subst hz;rfl
 ·rw[if_neg hz]
  by_cases h:((n.toNat.log2:Nat):Int)+1 > 1
  ·rw[if_pos h];congr 1;omega
  ·rw[if_neg h];congr 1;omega
theorem e6I {n:Int} (h0:0<=n) (h1:n < 4611686018427387904):Gt ⟨3,((1+n.toNat.log2:Nat):Int),0⟩:=by
 have:n.toNat.log2 < 62:=by
  by_cases hz:n.toNat=0
  ·rw[hz];decide
  ·exact(Nat.log2_lt hz).2 (by omega)
 exact⟨.inr (.inr rfl),λh=>by simp at h,by simp only;omega,by simp only;omega,by simp,by simp⟩
theorem e6J {p:Ty->Bool} {l:List Rr} {t:Ty} {w cs b s:Int} {P:Bool} (hp:((l.map (·.t)).all p)=P) (ht:Gt t) (hb:0<=b) (h0:0<=s) (h1:s<=20001) (hs:s=cs) (hb1:b<=63) {R:Rr} (hR:R=if P=false then e4I 6 else ⟨t,b,s,0⟩):Sim (d3P p (l.map (·.t)) t,max w b) R w cs:=by
 subst hR
 unfold d3P
 rw[hp]
 cases P with
 |false=>exact Sim.bad (by decide) (by rw[if_pos rfl];rfl)
 |true=>rw[if_pos rfl,if_neg (by simp)];exact Sim.ok rfl hs ht hb h0 h1 hb1
theorem e6K (a:Ty):∀ (l:List Ty) (r:Ty),d3S a l r=if l.all d3N=false then none else some (if l.all (λt=>decide (t=a)) then r else fieldT)
 |[],r=>by simp [d3S]
 |t::l,r=>by
  rw[d3S]
  by_cases h:t.len=0
  ·rw[if_neg (by simpa using h)]
   by_cases h2:t=a
   ·rw[if_neg (by simpa using h2),e6K a l r];simp [h,h2,d3N]
    subst h2;simp [h]
   ·rw[if_pos h2,e6K a l fieldT];simp [h,h2,d3N]
  ·rw[if_pos h];simp [h,d3N]
theorem all_map {p:Ty->Bool} {l:List Rr}:(l.map (·.t)).all p=l.all λr=>p r.t:=by rw[List.all_map];rfl
theorem e6L {l:List Rr} {i:Nat}:(l.map (·.t)).getD i zTy=tyR l i:=by
 unfold tyR
 rw[List.getD_eq_getElem?_getD,g5P,List.getD_eq_getElem?_getD]
 cases l[i]? <;> rfl
theorem e6M {fz:Fz} {fs:Fs} {ks:Ks} (hR:Rel fz fs ks) (ns:Ns) {e:Exp} (he:EG e) {l:List Rr} (hl:RsG l) (hlen:l.length=e.args.length) {w:Int} (h1:e.op≠1) (h2:e.op≠2) (h34:¬(e.op=3\/e.op=4)) (_:e.op≠8)
  (hcs:csE ks e=min 20001 ((if e.op=5 then 1+d4K e.name ks else 0)+skL l)) :
  Sim (opM fs ns e.op e.val e.name (l.map (·.t)) (max w (bsL l))) (opR fz e.op e.val e.name l (acL l)) w (csE ks e):=by
 have hb:=e5X l
 have hst:=e5Z hl
 have hb63:=e5Y hl
 have hA:=e6B hl
 unfold opM opR
 rw[if_neg h1,if_neg h34,if_neg h2]
 by_cases o5:e.op=5
 ·rw[if_pos o5,if_pos o5]
  unfold d3R
  rw[hR.fs]
  rcases e6D (nm:=e.name) (l:=l) (a:=acL l) (fz:=fz) with⟨g1,g2⟩|⟨p,gm,g1,g2,g3⟩
  ·rw[g1,g2]
   exact Sim.bad (by decide) rfl
  ·rw[g1,g3]
   obtain⟨p1,p2,p3,p4⟩:=hR.ok p gm
   simp only[g5Y]
   by_cases hn:(l.length:Int)≠(p.1.params.length:Int)
   ·rw[if_pos hn,if_pos hn]
    exact Sim.bad (by decide) rfl
   ·rw[if_neg hn,if_neg hn,e6C hl p2]
    cases hf:e4M l p.1.params with
    |false=>exact Sim.bad (by decide) (by rw[if_pos rfl];rfl)
    |true =>
     rw[if_pos rfl,if_neg (by simp),hA]
     have hk:d4K e.name ks=p.2:=by unfold d4K;rw[hR.ks,g2];rfl
     rw[if_pos o5,hk] at hcs
     simp only
     rw[show IntKind.wrap .i64 (min 20001 (skL l)+1)=min 20001 (skL l)+1 from e5J (by omega) (by omega),e5J (by omega) (by omega),e5I]
     exact Sim.ok rfl (by rw[hcs];omega) p1 hb (by omega) (by omega) hb63
 rw[if_neg o5] at hcs
 have hcs':min 20001 (skL l)=csE ks e:=by rw[hcs];omega
 rw[if_neg o5,if_neg o5]
 have hsc:((l.map (·.t)).all d3N)=(acL l).sc:=by rw[hA,all_map]
 have hbo:((l.map (·.t)).all d3O)=(acL l).bo:=by rw[hA,all_map];rfl
 have hbits:(acL l).bits=bsL l:=by rw[hA]
 have hsteps:(acL l).steps=min 20001 (skL l):=by rw[hA]
 have all1:∀ t,Gt t->Sim (d3P d3N (l.map (·.t)) t,max w (bsL l)) (scR (acL l) ⟨t,(acL l).bits,(acL l).steps,0⟩) w (csE ks e):=λt ht =>
  e6J hsc ht (by omega) (by omega) (by omega) hcs' (by omega) (by unfold scR;rw[hbits,hsteps])
 by_cases o6:e.op=6
 ·rw[if_pos o6,if_pos o6]
  by_cases hv:e.val>=65536
  ·rw[if_pos hv,if_pos hv]
   exact Sim.bad (by decide) rfl
  ·rw[if_neg hv,if_neg (show ¬65536<=e.val from hv)]
   exact all1 _ e5M
 rw[if_neg o6,if_neg o6]
 by_cases o7:e.op=7
 ·rw[if_pos o7,if_pos o7]
  have hne:l≠[]:=by
   intro hn
   rw[hn] at hlen
   exact he.some o7 (List.length_eq_zero_iff.1 hlen.symm)
  obtain⟨r0,l',hl0⟩:∃ r l',l=r::l':=by
   cases l with
   |nil=>exact absurd rfl hne
   |cons r l'=>exact⟨r,l',rfl⟩
  have hM:d3T (l.map (·.t))=if (acL l).sc=false then Ky.bad 6 else (⟨(if (acL l).sa then tyR l 0 else fieldT).kind,(if (acL l).sa then tyR l 0 else fieldT).bits,(l.length:Int)⟩,0):=by
   rw[<-hsc]
   have hsa:(acL l).sa=(l.map (·.t)).all λt=>decide (t=tyR l 0):=by rw[hA,all_map]
   rw[hsa]
   have ht0:tyR l 0=r0.t:=by rw[hl0];rfl
   rw[ht0]
   have:l.map (·.t)=r0.t::l'.map (·.t):=by rw[hl0];rfl
   unfold d3T
   rw[this]
   simp only
   rw[<-this,e6K]
   cases (l.map (·.t)).all d3N with
   |false=>rfl
   |true=>simp only[Bool.true_eq_false,if_false,g5Y]
  rw[hM]
  unfold scR
  cases hs:(acL l).sc with
  |false=>rw[ff,ff];exact Sim.bad (by decide) rfl
  |true =>
   rw[tf,tf]
   have hgt:Gt (if (acL l).sa then tyR l 0 else fieldT):=by
    split
    ·have:tyR l 0=r0.t:=by rw[hl0];rfl
     rw[this];exact(hl r0 (by simp [hl0])).t
    ·exact e5M
   have:=he.len
   have hb20:B20=1100000:=rfl
   exact Sim.ok (by rw[hbits]) (by rw[hsteps];exact hcs') ⟨hgt.k,hgt.b,hgt.b0,hgt.b1,by simp only;omega,by simp only;omega⟩ (by omega) (by omega) (by omega) (by omega)
 rw[if_neg o7,if_neg o7]
 by_cases o20:e.op=20
 ·obtain⟨x,y,z,hxyz⟩:=d5S he.b o20
  have hl3:∃ a b c,l=[a,b,c]:=by
   rw[hxyz] at hlen
   match l,hlen with
   |[a,b,c],_=>exact⟨a,b,c,rfl⟩
  obtain⟨a,b,c,hl3⟩:=hl3
  rw[if_pos o20,if_neg (by omega),if_neg (by omega),if_neg (by omega),if_pos o20,e6L,e6L,e6L]
  have ta:tyR l 0=a.t:=by rw[hl3];rfl
  have tb:tyR l 1=b.t:=by rw[hl3];rfl
  have tc:tyR l 2=c.t:=by rw[hl3];rfl
  rw[ta,tb,tc]
  unfold d3U d3O
  by_cases hbo:a.t=d1G
  ·rw[g7K hbo,tf,if_neg (show ¬(a.t≠d1G) from λh=>h hbo)]
   by_cases hbc:b.t=c.t
   ·rw[if_pos hbc,if_pos hbc]
    exact Sim.ok (by rw[hbits]) (by rw[hsteps];exact hcs') (hl b (by simp [hl3])).t (by omega) (by omega) (by omega) (by omega)
   ·rw[if_neg hbc,if_neg hbc]
    have hsc3:(acL l).sc=(d3N b.t&&d3N c.t):=by rw[hA,hl3];simp [hbo,d3N,d1G]
    unfold scR
    rw[<-hsc3]
    cases hs:(acL l).sc with
    |false=>rw[ff];exact Sim.bad (by decide) rfl
    |true =>
     rw[tf,if_pos rfl]
     exact Sim.ok (by rw[hbits]) (by rw[hsteps];exact hcs') e5M (by omega) (by omega) (by omega) (by omega)
  ·rw[g7I hbo,ff,if_pos hbo]
   exact Sim.bad (by decide) rfl
 rw[if_neg o20]
 by_cases o14:e.op=14\/e.op=15
 ·rw[if_pos o14,if_pos o14]
  exact all1 _ e5N
 rw[if_neg o14,if_neg o14]
 by_cases o16:e.op=16\/e.op=17
 ·obtain⟨x,y,hxy⟩:=d5R he.b (by omega)
  have hl2:∃ a b,l=[a,b]:=by
   rw[hxy] at hlen
   match l,hlen with
   |[a,b],_=>exact⟨a,b,rfl⟩
  obtain⟨a,b,hl2⟩:=hl2
  rw[if_pos o16,if_pos o16,e6L,e6L]
  have ta:tyR l 0=a.t:=by rw[hl2];rfl
  have tb:tyR l 1=b.t:=by rw[hl2];rfl
  rw[ta,tb]
  have hui:(acL l).ui=(d3N a.t&&decide (a.t.kind=3)&&(d3N b.t&&decide (b.t.kind=3))):=by rw[hA,hl2];simp
  have ga:=(hl a (by simp [hl2])).t
  have gb:=(hl b (by simp [hl2])).t
  have ga1:=ga.b1
  have ga0:=ga.b0
  have gb1:=gb.b1
  have gb0:=gb.b0
  unfold d3V
  rw[hui]
  by_cases hc:a.t.kind≠3\/b.t.kind≠3\/a.t.len≠0\/b.t.len≠0
  ·rw[if_pos hc,if_pos]
   ·exact Sim.bad (by decide) rfl
   ·unfold d3N
    rcases hc with h|h|h|h <;> simp [h]
  ·have hc':a.t.kind=3/\b.t.kind=3/\a.t.len=0/\b.t.len=0:=by omega
   obtain⟨c1,c2,c3,c4⟩:=hc'
   rw[if_neg hc,if_neg (by unfold d3N;simp [c1,c2,c3,c4])]
   have hs:(acL l).sc=true:=by rw[hA,hl2];simp [d3N,c3,c4]
   unfold scR
   rw[hs,if_neg (by simp),hbits,hsteps,e5G,e5G,e5F,e5F,e5J (by omega) (by omega)]
   exact Sim.ok (by omega) hcs' e5N (by omega) (by omega) (by omega) (by omega)
 rw[if_neg o16,if_neg o16]
 by_cases o10:e.op=10\/e.op=18\/e.op=19
 ·rw[if_pos o10,if_pos o10]
  refine e6J hbo e5N (b:=bsL l) (s:=min 20001 (skL l)) (by omega) (by omega) (by omega) hcs' (by omega) ?_
  cases hs:(acL l).bo with
  |false=>rfl
  |true =>
   rw[if_neg (by simp),if_neg (by simp)]
   unfold scR
   have:(acL l).sc=true:=by
    rw[hA] at hs ⊢
    simp only[g5A,g7L] at hs ⊢
    intro r hr
    rw[hs r hr];rfl
   rw[this,if_neg (by simp),hbits,hsteps]
 ·rw[if_neg o10,if_neg o10,if_neg o20]
  exact all1 _ e5M
theorem e6N {fz:Fz} {fs:Fs} {ks:Ks} (hR:Rel fz fs ks) (nm:Nm):0<=d4K nm ks:=by
 unfold d4K
 cases h:look nm ks with
 |none=>exact Int.le_refl _
 |some n =>
  have:=e5Q h
  rw[hR.ks] at this
  obtain⟨p,hp,he⟩:=List.mem_map.1 this
  have:=(hR.ok p hp).2.2.1
  have e2:p.2=n:=congrArg Prod.snd he
  show 0<=n
  omega
theorem e6O {fz:Fz} {fs:Fs} {ks:Ks} {ns:Ns}:∀ (l:List Exp),(∀ a,a∈l->∀ w,0<=w->Sim (exM fs ns a w) (exR fz ns a) w (csE ks a))->∀ w n:Int,0<=n->0<=w ->
  (d3Y fs ns l w).1.2=(e4O fz ns l).2/\((e4O fz ns l).2=0->(d3Y fs ns l w).1.1=(e4O fz ns l).1.map (·.t)/\(d3Y fs ns l w).2=max w (bsL (e4O fz ns l).1) /\
   min 20001 (d4L ks l n)=min 20001 (n+skL (e4O fz ns l).1)/\RsG (e4O fz ns l).1/\(e4O fz ns l).1.length=l.length):=by
 intro l
 induction l with
 |nil =>
  intro _ w n hn hw
  simp only[d3Y,e4O,d4L,g6F,bsL,skL,eq_self,true_and,g5Z]
  refine λ_=>⟨by omega,by omega,?_,trivial⟩
  intro r hr;cases hr
 |cons a r ih =>
  intro h w n hn hw
  have ha:=h a (by simp) w hw
  rw[d5Y,e4Q]
  by_cases hae:(exR fz ns a).err=0
  ·obtain⟨v1,v2,v3,v4⟩:=ha.val hae
   have g0:=v4.s0
   have hb0:=v4.b0
   have g:=ih (λx hx=>h x (by simp [hx])) (exM fs ns a w).2 (mn 20001 (n+csE ks a)) (by rw[e5H,<-v3];omega) (by rw[v2];omega)
   obtain⟨g1,g2⟩:=g
   rw[if_neg (show ¬((exM fs ns a w).1.2≠0) from λh=>h (ha.err.2 hae)),if_neg (show ¬((exR fz ns a).err≠0) from λh=>h hae)]
   by_cases hre:(e4O fz ns r).2=0
   ·obtain⟨q1,q2,q3,q4,q5⟩:=g2 hre
    have hq0:=e5Z q4
    rw[if_neg (show ¬((d3Y fs ns r (exM fs ns a w).2).1.2≠0) from λh=>h (g1.trans hre)),if_neg (show ¬((e4O fz ns r).2≠0) from λh=>h hre)]
    refine⟨by simp,λ_=>⟨by simp [v1,q1],?_,?_,?_,by simp [q5]⟩⟩
    ·rw[bsL];rw[q2,v2];omega
    ·rw[skL,d4L,q3,e5H,<-v3];omega
    ·intro x hx
     rcases g6H.1 hx with e|e
     ·subst e;exact v4
     ·exact q4 x e
   ·rw[if_pos (show(d3Y fs ns r (exM fs ns a w).2).1.2≠0 from λe=>hre (g1.symm.trans e)),if_pos hre]
    exact⟨g1,λe=>absurd e hre⟩
  ·rw[if_pos (show(exM fs ns a w).1.2≠0 from λe=>hae (ha.err.1 e)),if_pos hae]
   exact⟨ha.eq,λe=>absurd e hae⟩
theorem e6P {fz:Fz} {fs:Fs} {ks:Ks} (hR:Rel fz fs ks) {ns:Ns} (hn:NsG ns):∀ e,EG e->∀ w:Int,0<=w->Sim (exM fs ns e w) (exR fz ns e) w (csE ks e):=by
 refine Exp.ind λe ih he w hw=>?_
 rw[d3Z,e4P]
 have hv:=he.val
 by_cases o8:e.op=8
 ·obtain⟨a,b,hab⟩:=d5R he.b (.inl o8)
  rw[if_pos o8,if_neg (by omega),if_neg (by omega),if_neg (by omega),if_pos o8,hab]
  simp only
  have ha:=ih a (by simp [hab]) (he.arg (by simp [hab])) w hw
  have hb:=he.arg (a:=b) (by simp [hab])
  unfold d3X ixR
  by_cases hae:(exR fz ns a).err=0
  ·obtain⟨v1,v2,v3,v4⟩:=ha.val hae
   have gl0:=v4.t.l0
   have gl1:=v4.t.l1
   rw[if_neg (show ¬((exM fs ns a w).1.2≠0) from λh=>h (ha.err.2 hae)),if_neg (show ¬((exR fz ns a).err≠0) from λh=>h hae)]
   simp only
   rw[v1]
   by_cases hl:(exR fz ns a).t.len=0
   ·rw[if_pos hl,if_pos hl]
    have hpe:=e6F (ns:=ns) hb (exR fz ns a).t.len
    have h1:=e6F (ns:=ns) hb 1
    have hL:=e6G (ns:=ns) hb (exR fz ns a).t.len 1
    split
    ·rename_i hq
     have hq1:(d3W ns b 1).2≠0:=by rw[<-hL];exact hq
     refine Sim.bad hq ?_
     rw[h1.ne hq1,<-hL]
     rcases hpe.v with h|h|h
     ·exact absurd h hq
     ·rw[h];rfl
     ·rw[h];rfl
    ·rename_i hq
     have hq1:(d3W ns b 1).2=0:=by rw[<-hL];exact Decidable.byContradiction hq
     refine Sim.bad (by decide) ?_
     rw[if_neg (show ¬e4L ns b 1=4 by rcases h1.eq hq1 with h|h <;> rw[h] <;> decide)];rfl
   ·rw[if_neg hl,if_neg hl]
    have hp:=e5T hn hb gl0 gl1
    by_cases hx:e4L ns b (exR fz ns a).t.len=0
    ·obtain⟨p1,p2⟩:=hp.1 hx
     rw[if_neg (show ¬((d3W ns b (exR fz ns a).t.len).2≠0) from λh=>h p1),p2,tf,if_neg (show ¬(e4L ns b (exR fz ns a).t.len≠0) from λh=>h hx)]
     have g:=v4.t
     have s0:=v4.s0
     have s1:=v4.s1
     have hcs:csE ks e=(exR fz ns a).steps:=by
      rw[d4M,if_neg (by omega),hab]
      simp only[d4L]
      rw[e5W hb p1,e5H,e5H,e5H,<-v3]
      omega
     rw[hae]
     exact Sim.ok v2 hcs.symm ⟨g.k,g.b,g.b0,g.b1,by simp,by simp⟩ v4.b0 s0 s1 v4.b1
    ·rw[if_pos hx]
     have hpe:=e6F (ns:=ns) hb (exR fz ns a).t.len
     split
     ·rename_i hq
      exact Sim.bad hq (hpe.ne hq).symm
     ·rename_i hq
      rw[if_pos]
      ·exact Sim.bad (by decide) ((hpe.eq (Decidable.byContradiction hq)).resolve_left hx).symm
      ·cases hz:(d3W ns b (exR fz ns a).t.len).1 with
       |false=>rfl
       |true=>exact absurd (hp.2 ⟨by simpa using hq,hz⟩) hx
  ·rw[if_pos (show(exM fs ns a w).1.2≠0 from λh=>hae (ha.err.1 h)),if_pos hae]
   exact Sim.bad (λh=>hae (ha.err.1 h)) ha.eq
 rw[if_neg o8]
 have none':(e.op=1\/e.op=2\/e.op=3\/e.op=4)->d3Y fs ns e.args w=(([],0),w)/\csE ks e=0:=λho=>by
  have:=he.none ho
  exact⟨by rw[this,d3Y],e5V (by omega) this⟩
 by_cases o1:e.op=1
 ·obtain⟨n1,n2⟩:=none' (.inl o1)
  rw[n1,n2,if_pos o1]
  simp only
  unfold opM
  rw[if_neg (by simp),if_pos o1]
  by_cases h62:e.val>=4611686018427387904
  ·rw[if_pos h62]
   unfold d3M okR
   rw[if_pos h62]
   exact Sim.ok (by omega) rfl e5M (by omega) (by omega) (by omega) (by omega)
  ·rw[if_neg h62,e6H hv.1 (by omega)]
   exact Sim.ok (by omega) rfl (e6I hv.1 (by omega)) (by omega) (by omega) (by omega) (by omega)
 rw[if_neg o1]
 by_cases o3:e.op=3\/e.op=4
 ·obtain⟨n1,n2⟩:=none' (by omega)
  rw[n1,n2,if_pos o3]
  simp only
  unfold opM
  rw[if_neg (by simp),if_neg o1,if_pos o3]
  exact Sim.ok (by omega) rfl e5N (by omega) (by omega) (by omega) (by omega)
 rw[if_neg o3]
 by_cases o2:e.op=2
 ·obtain⟨n1,n2⟩:=none' (by omega)
  rw[n1,n2,if_pos o2]
  simp only
  unfold opM
  rw[if_neg (by simp),if_neg o1,if_neg o3,if_pos o2]
  cases hl:look e.name ns with
  |none=>exact Sim.bad (by decide) rfl
  |some s=>exact Sim.ok (by omega) rfl (hn.look hl).1 (by omega) (by omega) (by omega) (by omega)
 rw[if_neg o2,if_neg o8]
 simp only
 have hk:=e6N hR e.name
 obtain⟨g1,g2⟩:=e6O (fz:=fz) (fs:=fs) (ks:=ks) (ns:=ns) e.args (λa ha w' hw'=>ih a ha (he.arg ha) w' hw') w (if e.op=5 then 1+d4K e.name ks else 0) (by split <;> omega) hw
 by_cases hq:(e4O fz ns e.args).2=0
 ·obtain⟨q1,q2,q3,q4,q5⟩:=g2 hq
  rw[if_neg (show ¬((d3Y fs ns e.args w).1.2≠0) from λh=>h (g1.trans hq)),if_neg (show ¬((e4O fz ns e.args).2≠0) from λh=>h hq),q1,q2]
  exact e6M hR ns he q4 q5 o1 o2 o3 o8 (by rw[d4M,e5H,q3])
 ·rw[if_pos (show(d3Y fs ns e.args w).1.2≠0 from λh=>hq (g1.symm.trans h)),if_pos hq]
  exact Sim.bad (λh=>hq (g1.symm.trans h)) g1
end Go.Ky

/- KX 22: the checker and the reference agree upon statements. -/
namespace Go.Ky
open Go.Pi Go.Lx
structure SG (s:St):Prop where
 b:stB s=true
 o:StOk s
 s:szS s<=B20
theorem SG.ex {s:St} (h:SG s) (h3:s.kind≠3):EG s.ex:=by
 refine⟨d6M h.b h3,?_,g6V (d2P s) h.s⟩
 cases h.o with
 |mk _ _ _ _ h4=>exact h4
theorem SG.sub {s a:St} (h:SG s) (h3:s.kind=3) (ha:a∈s.body):SG a:=by
 refine⟨?_,?_,?_⟩
 ·have:=h.b
  rw[d2Z,if_neg (by omega),if_neg (by omega),if_pos h3,g4S] at this
  exact g5A.1 this.2 a ha
 ·cases h.o with
  |mk _ _ _ _ _ _ _ _ _ h=>exact h a ha
 ·have h1:=h.s
  have h2:=d2M ha
  rw[d2J] at h1
  omega
theorem SG.ty {s:St} (h:SG s) (h3:s.kind≠3) (h2:s.kind≠2) (ht:s.typed=true):Gt s.ty:=by
 have:=h.b
 rw[d2Z] at this
 split at this
 ·simp only[g4S,ht] at this
  refine e5L ?_
  cases hb:tyB s.ty with
  |true=>rfl
  |false=>simp [hb] at this
 ·cases this
theorem SG.rng {s:St} (h:SG s) (h3:s.kind=3):0<=s.lo/\s.lo<=1000000/\0<=s.hi/\s.hi<=1000000:=by
 have:=h.b
 rw[d2Z,if_neg (by omega),if_neg (by omega),if_pos h3] at this
 simp only[g4S,d2V,g7L] at this
 omega
structure OG (r:Rr):Prop where
 e:r.err=0
 b0:0<=r.bits
 b1:r.bits<=63
 s0:0<=r.steps
 s1:r.steps<=20001
theorem e6Q:OG zR:=⟨rfl,by decide,by decide,by decide,by decide⟩
structure SimS (m:Rs) (q:Rr×Ns) (w0 cs:Int):Prop where
 eq:m.1=q.1.err
 val:q.1.err=0->m.2.1=q.2/\m.2.2=max w0 q.1.bits/\q.1.steps=cs/\NsG q.2/\OG q.1
theorem SimS.err {m:Rs} {q:Rr×Ns} {w0 cs:Int} (h:SimS m q w0 cs):m.1=0↔q.1.err=0:=by rw[h.eq]
theorem SimS.bad {m:Rs} {q:Rr×Ns} {w0 cs:Int} (h:m.1≠0) (h2:m.1=q.1.err):SimS m q w0 cs:=⟨h2,λx=>absurd (h2.trans x) h⟩
theorem SimS.ok {ns:Ns} {w w0 cs:Int} {r:Rr} (hw:w=max w0 r.bits) (hs:r.steps=cs) (hn:NsG ns) (ho:OG r):SimS (0,ns,w) (r,ns) w0 cs :=
 ⟨ho.e.symm,λ_=>⟨rfl,hw,hs,hn,ho⟩⟩
theorem e6R {w:Int} (t:Ty) (h:0<=w):d4B t w=max w (e4B t):=by
 unfold d4B e4B
 split
 ·rw[e5G]
 ·omega
theorem e6S {nm:Nm} {s:Sy} {ns:Ns} {w w0 cs:Int} {out:Rr} (hn:NsG ns) (hs:SyG s) (ho:OG out) (hw:w=max w0 out.bits) (hc:out.steps=cs):SimS (d4A nm s ns w) (e4R nm s out ns) w0 cs:=by
 unfold d4A e4R
 cases look nm ns with
 |some x=>exact SimS.bad (show(5:Int)≠0 by decide) rfl
 |none=>exact SimS.ok hw hc (hn.add nm hs) ho
theorem e6T {out r:Rr} (ho:OG out) (hr:RG r):OG (e4T out r)/\(e4T out r).bits=max out.bits r.bits/\(e4T out r).steps=min 20001 (out.steps+1+r.steps):=by
 have h1:=ho.b0
 have h2:=ho.s0
 have h3:=ho.s1
 have h4:=hr.b0
 have h5:=hr.s0
 have h6:=hr.s1
 have h7:=ho.b1
 have h8:=hr.b1
 have e1:(e4T out r).bits=max out.bits r.bits:=e5F _ _
 have e2:(e4T out r).steps=min 20001 (out.steps+1+r.steps):=by
  show e3Z _=_
  rw[show IntKind.wrap .i64 (out.steps+1)=out.steps+1 from e5J (by omega) (by omega),e5J (by omega) (by omega),e5I]
 exact⟨⟨ho.e,by omega,by omega,by omega,by omega⟩,e1,e2⟩
theorem e6U {d s o:Int} (h0:0<=d) (h1:d<=1000000) (h2:0<=s) (h3:s<=20001) (h4:0<=o) (h5:o<=20001):e3Z (IntKind.i64.wrap (o+e4A d s))=min (o+d * s) 20001:=by
 have hm:=d7H h0 h1 h2 h3
 by_cases hd:d=0
 ·subst hd
  rw[show e4A 0 s=0 by unfold e4A;rw[if_pos (.inl rfl)],e5J (by omega) (by omega),e5I];omega
 by_cases hs:s=0
 ·subst hs
  rw[show e4A d 0=0 by unfold e4A;rw[if_pos (.inr rfl)],e5J (by omega) (by omega),e5I];omega
 have hge:d<=d * s:=by
  have:=Int.mul_le_mul_of_nonneg_left (show(1:Int)<=s by omega) h0
  omega
 unfold e4A
 rw[if_neg (by omega)]
 by_cases hb:d > 20000
 ·rw[if_pos hb,e5J (by omega) (by omega),e5I];omega
 ·rw[if_neg hb,show IntKind.wrap .i64 (d * s)=d * s from e5J (by omega) (by omega),e5I (d * s),e5J (by omega) (by omega),e5I];omega
theorem e6V {out r:Rr} {d:Int} (ho:OG out) (hr:OG r) (h0:0<=d) (h1:d<=1000000):OG (e4U out r d)/\(e4U out r d).bits=max out.bits r.bits/\(e4U out r d).steps=min (out.steps+d * r.steps) 20001:=by
 have e1:(e4U out r d).bits=max out.bits r.bits:=e5F _ _
 have e2:(e4U out r d).steps=min (out.steps+d * r.steps) 20001:=e6U h0 h1 hr.s0 hr.s1 ho.s0 ho.s1
 have hm:=d7H h0 h1 hr.s0 hr.s1
 have:=ho.b0
 have:=ho.s0
 have:=ho.b1
 have:=hr.b1
 exact⟨⟨ho.e,by omega,by omega,by omega,by omega⟩,e1,e2⟩
theorem e6W {fz:Fz} {s:St} {out:Rr} {own:Ns} (h3:s.kind=3):stR fz s out own=if s.lo > s.hi then (e4I 8,[]) else match look s.name own with
   |some _=>(e4I 5,[])
   |none=>if (e4V fz s.body zR (own++[(s.name,⟨fieldT,true,s.lo,s.hi⟩)])).1.err≠0 then ((e4V fz s.body zR (own++[(s.name,⟨fieldT,true,s.lo,s.hi⟩)])).1,[])
    else (e4U out (e4V fz s.body zR (own++[(s.name,⟨fieldT,true,s.lo,s.hi⟩)])).1 (IntKind.i64.wrap (s.hi - s.lo)),own):=by
 rw[e4W,if_pos h3] <;> rfl
theorem e6X {fz:Fz} {s:St} {out:Rr} {own:Ns} (h3:s.kind≠3):stR fz s out own=if (exR fz own s.ex).err≠0 then (exR fz own s.ex,[])
  else if s.kind=2 then (if (exR fz own s.ex).t≠d1G then (e4I 6,[]) else (e4T out (exR fz own s.ex),own))
  else e4S s.name s.typed s.ty (exR fz own s.ex) (e4T out (exR fz own s.ex)) own:=by
 rw[e4W,if_neg h3]
theorem e6Y {fz:Fz} {s:St} {r:List St} {out:Rr} {own:Ns}:e4V fz (s::r) out own=if (stR fz s out own).1.err≠0 then ((stR fz s out own).1,[]) else e4V fz r (stR fz s out own).1 (stR fz s out own).2:=by rw[e4V]
theorem e6Z {fz:Fz} {fs:Fs} {ks:Ks}:∀ (l:List St),(∀ s,s∈l->∀ ns out w,NsG ns->OG out->0<=w->SimS (stM fs s ns (max w out.bits)) (stR fz s out ns) w (min (out.steps+bsS ks s) 20001)) ->
  ∀ ns out w,NsG ns->OG out->0<=w->SimS (d4C fs l ns (max w out.bits)) (e4V fz l out ns) w (d4N ks l out.steps):=by
 intro l
 induction l with
 |nil =>
  intro _ ns out w hn ho hw
  rw[d4C,e4V,d4N]
  exact SimS.ok rfl rfl hn ho
 |cons s r ih =>
  intro h ns out w hn ho hw
  have hs:=h s (by simp) ns out w hn ho hw
  rw[d6G,e6Y,d4N]
  by_cases he:(stR fz s out ns).1.err=0
  ·obtain⟨v1,v2,v3,v4,v5⟩:=hs.val he
   rw[if_neg (show ¬((stM fs s ns (max w out.bits)).1≠0) from λx=>x (hs.err.2 he)),if_neg (show ¬((stR fz s out ns).1.err≠0) from λx=>x he),v1,v2,e5H,<-v3]
   exact ih (λx hx=>h x (by simp [hx])) _ _ w v4 v5 hw
  ·have hm:(stM fs s ns (max w out.bits)).1≠0:=λx=>he (hs.err.1 x)
   rw[if_pos hm,if_pos he]
   exact SimS.bad hm hs.eq
theorem e7A {fz:Fz} {fs:Fs} {ks:Ks} (hR:Rel fz fs ks):∀ s,SG s->∀ ns out w,NsG ns->OG out->0<=w->SimS (stM fs s ns (max w out.bits)) (stR fz s out ns) w (min (out.steps+bsS ks s) 20001):=by
 refine St.ind λs ih hs ns out w hn ho hw=>?_
 have hb0:=ho.b0
 have hs0:=ho.s0
 have hs1:=ho.s1
 rw[d4O]
 by_cases h3:s.kind=3
 ·obtain⟨r1,r2,r3,r4⟩:=hs.rng h3
  rw[d6J h3,e6W h3,if_pos h3]
  by_cases hlh:s.lo > s.hi
  ·rw[if_pos hlh,if_pos hlh]
   exact SimS.bad (by simp) rfl
  rw[if_neg hlh,if_neg hlh]
  cases hl:look s.name ns with
  |some x =>
   have hd:d4A s.name ⟨fieldT,true,s.lo,s.hi⟩ ns (max w out.bits)=(5,ns,max w out.bits):=by unfold d4A;rw[hl]
   rw[hd,if_pos (show(5:Int)≠0 by decide)]
   exact SimS.bad (by simp) rfl
  |none =>
   have hd:d4A s.name ⟨fieldT,true,s.lo,s.hi⟩ ns (max w out.bits)=(0,ns++[(s.name,⟨fieldT,true,s.lo,s.hi⟩)],max w out.bits):=by unfold d4A;rw[hl]
   rw[hd,if_neg (by simp)]
   simp only
   have hn':NsG (ns++[(s.name,⟨fieldT,true,s.lo,s.hi⟩)]):=hn.add _ ⟨e5M,λ_=>⟨r1,by show s.lo<=s.hi;omega,r4⟩⟩
   have hq:=e6Z (fz:=fz) (fs:=fs) (ks:=ks) s.body (λx hx=>ih x hx (hs.sub h3 hx)) _ zR (max w out.bits) hn' e6Q (by omega)
   rw[show max (max w out.bits) zR.bits=max w out.bits from by show max (max w out.bits) 0=_;omega,show zR.steps=0 from rfl] at hq
   by_cases he:(e4V fz s.body zR (ns++[(s.name,⟨fieldT,true,s.lo,s.hi⟩)])).1.err=0
   ·obtain⟨v1,v2,v3,v4,v5⟩:=hq.val he
    rw[if_neg (show ¬((d4C fs s.body (ns++[(s.name,⟨fieldT,true,s.lo,s.hi⟩)]) (max w out.bits)).1≠0) from λx=>x (hq.err.2 he)),if_neg (show ¬((e4V fz s.body zR (ns++[(s.name,⟨fieldT,true,s.lo,s.hi⟩)])).1.err≠0) from λx=>x he)]
    rw[show IntKind.wrap .i64 (s.hi - s.lo)=s.hi - s.lo from e5J (by omega) (by omega)]
    obtain⟨g1,g2,g3⟩:=e6V (d:=s.hi - s.lo) ho v5 (by omega) (by omega)
    exact SimS.ok (by rw[g2,v2];omega) (by rw[g3,v3]) hn g1
   ·have hm:(d4C fs s.body (ns++[(s.name,⟨fieldT,true,s.lo,s.hi⟩)]) (max w out.bits)).1≠0:=λx=>he (hq.err.1 x)
    rw[if_pos hm,if_pos he]
    exact SimS.bad hm hq.eq
 ·rw[d6K h3,e6X h3,if_neg h3]
  have hx:=e6P hR hn s.ex (hs.ex h3) (max w out.bits) (by omega)
  by_cases he:(exR fz ns s.ex).err=0
  ·obtain⟨v1,v2,v3,v4⟩:=hx.val he
   obtain⟨g1,g2,g3⟩:=e6T ho v4
   have gb:=g1.b0
   rw[if_neg (show ¬((exM fs ns s.ex (max w out.bits)).1.2≠0) from λx=>x (hx.err.2 he)),if_neg (show ¬((exR fz ns s.ex).err≠0) from λx=>x he),v1,v2,<-v3]
   have hst:(e4T out (exR fz ns s.ex)).steps=min (out.steps+(1+(exR fz ns s.ex).steps)) 20001:=by rw[g3];omega
   have hbt:max (max w out.bits) (exR fz ns s.ex).bits=max w (e4T out (exR fz ns s.ex)).bits:=by rw[g2];omega
   by_cases h2:s.kind=2
   ·rw[if_pos h2,if_pos h2]
    by_cases hbo:(exR fz ns s.ex).t≠d1G
    ·rw[if_pos hbo,if_pos hbo]
     exact SimS.bad (by simp) rfl
    ·rw[if_neg hbo,if_neg hbo]
     exact SimS.ok hbt hst hn g1
   rw[if_neg h2,if_neg h2]
   unfold e4S
   cases ht:s.typed with
   |false =>
    simp only[g4T,if_false]
    exact e6S hn ⟨v4.t,λh=>by cases h⟩ g1 hbt hst
   |true =>
    simp only[if_true]
    have hty:=hs.ty h3 h2 ht
    rw[e5P v4.t hty]
    by_cases hc:(s.ty.len=0/\(exR fz ns s.ex).t.len≠0)\/(s.ty.len≠0/\d3K (exR fz ns s.ex).t s.ty=false)
    ·rw[if_pos hc,if_pos]
     ·exact SimS.bad (by simp) rfl
     ·unfold d3N
      rcases hc with⟨a,b⟩|⟨a,b⟩ <;> simp [a,b]
    ·rw[if_neg hc,if_neg]
     ·rw[e6R _ (by omega),hbt]
      have hd0:0<=e4B s.ty:=by unfold e4B;have:=hty.b0;split <;> omega
      have hd1:e4B s.ty<=63:=by unfold e4B;have:=hty.b1;split <;> omega
      have gb1:=g1.b1
      refine e6S hn ⟨hty,λh=>by cases h⟩ ⟨g1.e,?_,?_,g1.s0,g1.s1⟩ ?_ hst
      ·show 0<=grM _ _;rw[e5F];omega
      ·show grM _ _<=63;rw[e5F];omega
      ·show _=max w (grM _ _);rw[e5F];omega
     ·unfold d3N
      intro hh
      apply hc
      by_cases a:s.ty.len=0
      ·left;simp [a] at hh;exact⟨a,by simpa using hh⟩
      ·right;simp [a] at hh;exact⟨a,by simpa using hh⟩
  ·have hm:(exM fs ns s.ex (max w out.bits)).1.2≠0:=λx=>he (hx.err.1 x)
   rw[if_pos hm,if_pos he]
   exact SimS.bad hm hx.eq
theorem e7B {fz:Fz} {fs:Fs} {ks:Ks} (hR:Rel fz fs ks) {l:List St} (hl:∀ s,s∈l->SG s) {ns:Ns} {out:Rr} {w:Int} (hn:NsG ns) (ho:OG out) (hw:0<=w):SimS (d4C fs l ns (max w out.bits)) (e4V fz l out ns) w (d4N ks l out.steps) :=
 e6Z l (λs hs=>e7A hR s (hl s hs)) ns out w hn ho hw
end Go.Ky

/- KX 23: lists that grow by one element; what an index is, case by case. -/
namespace Go.Ky
open Go.Pi Go.Lx
def Gl (sz:Nat) (v:PV) (ow:Ow) (es:List (List T)):Prop:=(v=.lit []/\es=[])\/∃ k,v=.own k sz es/\ow[k]?=some es.length
theorem Gl.zero (sz:Nat) (ow:Ow):Gl sz (.lit []) ow []:=.inl ⟨rfl,rfl⟩
theorem Gl.app {sz bytes:Nat} {v:PV} {ow:Ow} {es:List (List T)} {e:List T} (h:Gl sz v ow es) (he:e.length=sz) (h0:0 < sz) (hr:a0M (es.length+1) bytes=true) :
  ∃ v' ow',(∀ dr sg,a0R dr sg ow sz bytes v (.lit [e])=some (v',ow'))/\Gl sz v' ow' (es++[e]):=by
 rcases h with⟨rfl,rfl⟩|⟨k,rfl,hk⟩
 ·refine⟨.own ow.length sz [e],ow++[1],λdr sg=>?_,.inr ⟨ow.length,rfl,by simp⟩⟩
  simp only[a0R,a0K,elems,List.all_cons,List.all_nil,g5X,g5Z,List.nil_append,g7A,he,beq_self_eq_true,Bool.and_self,g7H,h0,if_true]
  rw[if_pos ⟨trivial,by simpa using hr,trivial⟩]
 ·refine⟨.own k sz (es++[e]),ow.set k (es.length+1),λdr sg=>?_,.inr ⟨k,rfl,by simp [List.getElem?_set,(g5O.1 hk).1]⟩⟩
  simp only[a0R,a0K,elems,List.all_cons,List.all_nil,g5X,g5Z,g7A,he,beq_self_eq_true,Bool.and_self,g7H,h0,if_true,hk,hr]
theorem e7C {n b:Nat} (h:n * b<=140737488355328) (h2:n<=4611686018427387904):a0M n b=true:=by
 unfold a0M
 exact g7K ⟨h,h2⟩
section
variable {s:Sy} {b sg len:Int}
theorem e7D (h:s.loop=false):e4J s b sg len=6:=by unfold e4J;rw[if_pos h]
theorem e7E (h:s.loop=true) (h2:s.low > IntKind.i64.wrap (s.high - 1)):e4J s b sg len=0:=by unfold e4J;rw[if_neg (by simp [h]),if_pos h2]
theorem e7F (h:s.loop=true) (h2:¬s.low > IntKind.i64.wrap (s.high - 1)) (h3:b > 10000000):e4J s b sg len=8:=by unfold e4J;rw[if_neg (by simp [h]),if_neg h2,if_pos h3]
theorem e7G (h:s.loop=true) (h2:¬s.low > IntKind.i64.wrap (s.high - 1)) (h3:¬b > 10000000)
  (h4:IntKind.i64.wrap (s.low+IntKind.i64.wrap (sg * IntKind.i64.wrap b)) < 0\/IntKind.i64.wrap (IntKind.i64.wrap (s.high - 1)+IntKind.i64.wrap (sg * IntKind.i64.wrap b))>=len):e4J s b sg len=8:=by
 unfold e4J;rw[if_neg (by simp [h]),if_neg h2,if_neg h3,if_pos h4]
theorem e7H (h:s.loop=true) (h2:¬s.low > IntKind.i64.wrap (s.high - 1)) (h3:¬b > 10000000)
  (h4:¬(IntKind.i64.wrap (s.low+IntKind.i64.wrap (sg * IntKind.i64.wrap b)) < 0)) (h5:¬(IntKind.i64.wrap (IntKind.i64.wrap (s.high - 1)+IntKind.i64.wrap (sg * IntKind.i64.wrap b))>=len)):e4J s b sg len=0:=by
 unfold e4J;rw[if_neg (by simp [h]),if_neg h2,if_neg h3,if_neg (λx=>x.elim h4 h5)]
end
end Go.Ky

/- KX 24: lists that grow: copies; what a body hands back. -/
namespace Go.Ky
open Go.Pi Go.Lx
theorem Gl.cl {sz:Nat} {v:PV} {ow:Ow} {es:List (List T)} (h:Gl sz v ow es):close v=some (.sl false es):=by
 rcases h with⟨rfl,rfl⟩|⟨k,rfl,_⟩ <;> rfl
theorem Gl.rsl {sz:Nat} {v:PV} {ow:Ow} {es:List (List T)} (h:Gl sz v ow es) (sg:Sg):retSl sg v=some (.sl false es):=by
 rcases h with⟨rfl,rfl⟩|⟨k,rfl,_⟩ <;> rfl
theorem Gl.copy1 {sz bytes:Nat} {v:PV} {ow:Ow} {es:List (List T)} {e:List T} (h:Gl sz v ow es) (he:e.length=sz) (h0:0 < sz) (hall:es.all (λx=>x.length == sz)=true) (hr:∀ n,n<=es.length+1->a0M n bytes=true) :
  ∃ v1 ow1 k ow2,(∀ dr sg,a0R dr sg ow sz bytes (.lit []) v=some (v1,ow1))/\(∀ dr sg,a0R dr sg ow1 sz bytes v1 (.lit [e])=some (.own k sz (es++[e]),ow2))/\Gl sz v ow2 es:=by
 have one:∀ dr sg,a0R dr sg ow sz bytes (.lit []) (.lit [e])=some (.own ow.length sz [e],ow++[1]):=by
  intro dr sg
  simp only[a0R,a0K,elems,List.all_cons,List.all_nil,g5X,g5Z,List.nil_append,g7A,he,beq_self_eq_true,Bool.and_self,g7H,h0,if_true]
  rw[if_pos ⟨trivial,by simpa using hr 1 (by omega),trivial⟩]
 rcases h with⟨rfl,rfl⟩|⟨k,rfl,hk⟩
 ·exact⟨.lit [],ow,ow.length,ow++[1],λdr sg=>rfl,one,.inl ⟨rfl,rfl⟩⟩
 ·have hkl:=(g5O.1 hk).1
  cases es with
  |nil=>exact⟨.lit [],ow,ow.length,ow++[1],λdr sg=>rfl,one,.inr ⟨k,rfl,by rw[g5J hkl];exact hk⟩⟩
  |cons a r =>
   refine⟨.own ow.length sz (a::r),ow++[(a::r).length],ow.length,(ow++[(a::r).length]).set ow.length ((a::r).length+1),λdr sg=>?_,λdr sg=>?_,.inr ⟨k,rfl,?_⟩⟩
   ·simp only[a0R,a0K,elems]
    rw[if_pos ⟨hall,h0⟩]
    simp only[g5Z,List.nil_append,List.all_nil,g7A]
    rw[if_pos ⟨trivial,hr _ (by omega),trivial⟩]
   ·simp only[a0R,a0K,elems,List.all_cons,List.all_nil,g5X,g5Z,g7A,he,beq_self_eq_true,Bool.and_self,g7H,h0,if_true]
    rw[if_pos ⟨by simp,by have:=hr ((a::r).length+1) (by omega);simpa using this,trivial⟩]
   ·rw[g5S (by omega),g5J hkl];exact hk
theorem e7I {sz bytes:Nat} {ow:Ow} {nl:Bool} {es:List (List T)} (hn:nl=true->es=[]) (h0:0 < sz) (hall:es.all (λx=>x.length == sz)=true) (hr:a0M es.length bytes=true) :
  ∃ v' ow',(∀ dr sg,a0R dr sg ow sz bytes (.lit []) (.t (.sl nl es))=some (v',ow'))/\Gl sz v' ow' es:=by
 cases es with
 |nil=>exact⟨.lit [],ow,λdr sg=>by cases nl <;> rfl,.inl ⟨rfl,rfl⟩⟩
 |cons a r =>
  have hf:nl=false:=by
   cases nl with
   |false=>rfl
   |true=>have:=hn rfl;cases this
  subst hf
  refine⟨.own ow.length sz (a::r),ow++[(a::r).length],λdr sg=>?_,.inr ⟨ow.length,rfl,by simp⟩⟩
  simp only[a0R,a0K,elems]
  rw[if_pos ⟨hall,h0⟩]
  simp only[g5Z,List.nil_append,List.all_nil,g7A]
  rw[if_pos ⟨trivial,hr,trivial⟩]
theorem all7 (l:Ns):(l.map e4D).all (λx=>x.length == 7)=true:=by
 rw[List.all_map]
 exact g5A.2 λ_ _=>rfl
theorem e7J {n:Nat} (h:n<=4 * B20+1):a0M n 64=true:=by
 have hb:B20=1100000:=rfl
 exact e7C (by omega) (by omega)
theorem e7K {fz:Fz}:∀ (l:List St) (out:Rr) (own:Ns),out.err=0->(e4V fz l out own).1.err≠0->(e4V fz l out own).2=[]
 |[],out,own,h,h2=>by rw[e4V] at h2;exact absurd h h2
 |s::r,out,own,h,h2=>by
  rw[e4V] at h2 ⊢
  by_cases he:(stR fz s out own).1.err=0
  ·rw[if_neg (show ¬((stR fz s out own).1.err≠0) from λx=>x he)] at h2 ⊢
   exact e7K r _ _ he h2
  ·rw[if_pos he]
end Go.Ky

/- KX 25: lists that grow beside older ones; how many names a body a2G. -/
namespace Go.Ky
open Go.Pi Go.Lx
def Gk (k0 sz:Nat) (v:PV) (ow:Ow) (es:List (List T)):Prop:=(v=.lit []/\es=[])\/∃ k,k0<=k/\v=.own k sz es/\ow[k]?=some es.length
def Ok0 (k0:Nat) (ow ow':Ow):Prop:=k0<=ow.length/\k0<=ow'.length/\∀ j,j < k0->ow'[j]?=ow[j]?
theorem Gk.gl {k0 sz:Nat} {v:PV} {ow:Ow} {es:List (List T)} (h:Gk k0 sz v ow es):Gl sz v ow es:=by
 rcases h with h|⟨k,_,h1,h2⟩
 ·exact .inl h
 ·exact .inr ⟨k,h1,h2⟩
theorem Gk.zero (k0 sz:Nat) (ow:Ow):Gk k0 sz (.lit []) ow []:=.inl ⟨rfl,rfl⟩
theorem Ok0.refl {ow:Ow}:Ok0 ow.length ow ow:=⟨g6U _,g6U _,λ_ _=>rfl⟩
theorem Gl.ok0 {sz:Nat} {v:PV} {ow ow':Ow} {es:List (List T)} (h:Gl sz v ow es) (h0:Ok0 ow.length ow ow'):Gl sz v ow' es:=by
 rcases h with h|⟨k,h1,h2⟩
 ·exact .inl h
 ·exact .inr ⟨k,h1,by rw[h0.2.2 k (g5O.1 h2).1];exact h2⟩
theorem Gk.app {k0 sz bytes:Nat} {v:PV} {ow0 ow:Ow} {es:List (List T)} {e:List T} (h:Gk k0 sz v ow es) (hk:Ok0 k0 ow0 ow) (he:e.length=sz) (h0:0 < sz) (hr:a0M (es.length+1) bytes=true) :
  ∃ v' ow',(∀ dr sg,a0R dr sg ow sz bytes v (.lit [e])=some (v',ow'))/\Gk k0 sz v' ow' (es++[e])/\Ok0 k0 ow0 ow':=by
 obtain⟨a,b,c⟩:=hk
 rcases h with⟨rfl,rfl⟩|⟨k,hkk,rfl,hk⟩
 ·refine⟨.own ow.length sz [e],ow++[1],λdr sg=>?_,.inr ⟨ow.length,b,rfl,by simp⟩,a,by simp;omega,λj hj=>?_⟩
  ·simp only[a0R,a0K,elems,List.all_cons,List.all_nil,g5X,g5Z,List.nil_append,g7A,he,beq_self_eq_true,Bool.and_self,g7H,h0,if_true]
   rw[if_pos ⟨trivial,by simpa using hr,trivial⟩]
  ·rw[g5J (by omega)];exact c j hj
 ·have hkl:=(g5O.1 hk).1
  refine⟨.own k sz (es++[e]),ow.set k (es.length+1),λdr sg=>?_,.inr ⟨k,hkk,rfl,by simp [hkl]⟩,a,by simpa using b,λj hj=>?_⟩
  ·simp only[a0R,a0K,elems,List.all_cons,List.all_nil,g5X,g5Z,g7A,he,beq_self_eq_true,Bool.and_self,g7H,h0,if_true,hk,hr]
  ·rw[g5S (by omega)];exact c j hj
theorem e7L {nm:Nm} {typed:Bool} {ty:Ty} {r out:Rr} {own:Ns}:(e4S nm typed ty r out own).2.length<=own.length+1:=by
 have h:∀ s o,(e4R nm s o own).2.length<=own.length+1:=by
  intro s o
  unfold e4R
  split
  ·simp
  ·simp
 unfold e4S
 split
 ·split
  ·simp
  ·exact h _ _
 ·exact h _ _
theorem e7M {fz:Fz} {s:St} {out:Rr} {own:Ns}:(stR fz s out own).2.length<=own.length+1:=by
 rw[e4W]
 repeat' split
 all_goals first|exact e7L|(simp;done)|(simp;omega)
theorem e7N {fz:Fz}:∀ (l:List St) (out:Rr) (own:Ns),(e4V fz l out own).2.length<=own.length+l.length
 |[],out,own=>by rw[e4V];simp
 |s::r,out,own=>by
  rw[e4V]
  split
  ·simp
  ·have h1:=e7N (fz:=fz) r (stR fz s out own).1 (stR fz s out own).2
   have h2:=e7M (fz:=fz) (s:=s) (out:=out) (own:=own)
   rw[g5X];omega
theorem e7O:∀ {l:List Pa} {ns s:Ns},e4X l ns=some s->s.length=ns.length+l.length
 |[],ns,s,h=>by rw[e4X] at h;injection h with h;subst h;rfl
 |p::r,ns,s,h=>by
  rw[e4X] at h
  split at h
  ·cases h
  ·rw[e7O h];simp;omega
theorem e7P:∀ {l:List De} {ns s:Ns} {x y:Inf},e5D l ns x=some (s,y)->s.length=ns.length+l.length
 |[],ns,s,x,y,h=>by rw[e5D] at h;injection h with h;injection h with h;subst h;rfl
 |p::r,ns,s,x,y,h=>by
  rw[e5D] at h
  split at h
  ·cases h
  ·rw[e7P h];simp;omega
end Go.Ky

/- KX 26: the checker and the reference agree upon programs. -/
namespace Go.Ky
open Go.Pi Go.Lx
theorem e7Q (l:List St) (lim:Nat):d8P l lim=l.any λs=>dpS s lim:=by
 induction l with
 |nil=>rfl
 |cons s r ih=>rw[d8P,ih];rfl
theorem e7R (l:List St) (n:Nat):d3B l<=n↔∀ s,s∈l->dSt s<=n:=by
 induction l with
 |nil=>simp [d3B]
 |cons s r ih =>
  rw[d3B]
  constructor
  ·intro h x hx
   rcases g6H.1 hx with e|e
   ·subst e;omega
   ·exact ih.1 (by omega) x e
  ·intro h
   have h1:=h s (by simp)
   have h2:=ih.2 λx hx=>h x (by simp [hx])
   omega
theorem e7S {s:St} (h:stB s=true) (h3:s.kind=3):dEx s.ex=1/\∀ a,a∈s.body->stB a=true:=by
 rw[d2Z,if_neg (by omega),if_neg (by omega),if_pos h3] at h
 simp only[g4S] at h
 obtain⟨⟨⟨⟨_,he⟩,_⟩,_⟩,hb⟩:=h
 refine⟨?_,λa ha=>g5A.1 hb a ha⟩
 unfold d2U at he
 simp only[g4S,g7L] at he
 have:s.ex.args=[]:=List.length_eq_zero_iff.1 (by omega)
 rw[d3C,this];rfl
theorem e7T {s:St} (h:stB s=true):∀ a,a∈s.body->stB a=true:=by
 by_cases h3:s.kind=3
 ·exact(e7S h h3).2
 ·rw[d2Z] at h
  have:s.body=[]:=by
   split at h
   ·simp only[g4S,g7L] at h;exact List.length_eq_zero_iff.1 (by omega)
   ·split at h
    ·simp only[g4S,g7L] at h;exact List.length_eq_zero_iff.1 (by omega)
    ·first|cases h|(rw[if_neg h3] at h;cases h)
  rw[this];simp
theorem e7U:∀ s,stB s=true->∀ lim,lim<=40->(dpS s lim=false↔dSt s<=lim/\shS s=true):=by
 refine St.ind λs ih hB lim hl=>?_
 have hb:=e7T hB
 rw[d8Q,d3I,d3D,e7Q]
 have hex:(decide (s.kind≠3)&&decide ((dEx s.ex:Int) > 40))=false↔shE s.ex=true:=by
  unfold shE
  by_cases h3:s.kind=3
  ·have:=(e7S hB h3).1
   simp [h3,this]
  ·simp [h3]
 by_cases h0:lim=0
 ·subst h0;simp
 ·have hbody:(s.body.any λa=>dpS a (lim - 1))=false↔d3B s.body<=lim - 1/\s.body.all shS=true:=by
   rw[List.any_eq_false,e7R,g5A]
   constructor
   ·intro h
    have:=λa ha=>(ih a ha (hb a ha) (lim - 1) (by omega)).1 (by simpa using h a ha)
    exact⟨λa ha=>(this a ha).1,λa ha=>(this a ha).2⟩
   ·intro h a ha
    have:=(ih a ha (hb a ha) (lim - 1) (by omega)).2 ⟨h.1 a ha,h.2 a ha⟩
    simp [this]
  simp only[g4W,g7J,g4S,g7L]
  rw[<-Bool.not_eq_true,Bool.not_eq_true] at *
  constructor
  ·rintro⟨_,h1,h2⟩
   have h1:=hex.1 (by simpa using h1)
   obtain⟨g1,g2⟩:=hbody.1 h2
   exact⟨by omega,⟨by omega,h1⟩,g2⟩
  ·rintro⟨h1,⟨_,h2⟩,h3⟩
   exact⟨h0,by have:=hex.2 h2;simpa using this,hbody.2 ⟨by omega,h3⟩⟩
theorem e7V {l:List St} (h:l.all stB=true):d8P l 40=false↔l.all shS=true:=by
 rw[e7Q,List.any_eq_false,g5A]
 have hB:=g5A.1 h
 constructor
 ·intro g a ha
  exact((e7U a (hB a ha) 40 (by omega)).1 (by simpa using g a ha)).2
 ·intro g a ha
  have hs:=g a ha
  have:dSt a<=40:=by
   rw[d3I] at hs
   simp only[g4S,g7L] at hs
   omega
  have:=(e7U a (hB a ha) 40 (by omega)).2 ⟨this,hs⟩
  simp [this]
theorem valid_eq {p:Pg}:rvP p=0↔d3J p=0:=by
 rw[valid_zero]
 have hfm:p.funcs.all fmB=p.funcs.all fuB:=by congr 1;funext f;exact d8R f
 unfold rvP
 rw[hfm]
 cases h1:p.funcs.all fuB with
 |false=>simp
 |true =>
  rw[if_neg (by simp)]
  cases h2:p.decls.all deB with
  |false=>simp
  |true =>
   rw[if_neg (by simp)]
   cases h3:p.body.all stB with
   |false=>simp
   |true =>
    rw[if_neg (by simp)]
    have hf:p.funcs.any dpF=false↔p.funcs.all shF=true:=by
     rw[List.any_eq_false,g5A]
     have hq:=g5A.1 h1
     have one:∀ f,f∈p.funcs->(dpF f=false↔shF f=true):=by
      intro f hf
      have:=hq f hf
      unfold fuB at this
      simp only[g4S] at this
      have hd:=e7V this.1.2
      unfold dpF shF shE
      rw[g4W,hd,g4S]
      simp
     constructor
     ·intro g f hf;exact(one f hf).1 (by simpa using g f hf)
     ·intro g f hf;have:=(one f hf).2 (g f hf);simp [this]
    have hb:=e7V h3
    cases h4:p.funcs.any dpF with
    |true =>
     rw[if_pos rfl]
     have:¬p.funcs.all shF=true:=λh=>by rw[hf.2 h] at h4;cases h4
     simp [this]
    |false =>
     rw[if_neg (by simp)]
     cases h5:d8P p.body 40 with
     |true =>
      rw[if_pos rfl]
      have:¬p.body.all shS=true:=λh=>by rw[hb.2 h] at h5;cases h5
      simp [this]
     |false =>
      rw[if_neg (by simp)]
      simp [hf.1 h4,hb.1 h5]
end Go.Ky

/- KX 27: the checker and the reference agree upon functions, declarations, programs. -/
namespace Go.Ky
open Go.Pi Go.Lx
theorem ft {α:Type} {a b:α}:(if (false=true) then a else b)=b:=if_neg (by simp)
theorem hasF_look {nm:Nm}:∀ {fz:Fz},look nm (fz.map λp=>(p.1.name,p.1))=none↔e4Y nm fz=false
 |[]=>by simp [look,e4Y]
 |p::r=>by
  have ih:=hasF_look (nm:=nm) (fz:=r)
  have hh:e4Y nm (p::r)=(decide (p.1.name=nm) || e4Y nm r):=rfl
  rw[g6E,look,hh]
  by_cases h:nm=p.1.name
  ·rw[if_pos h,g7K h.symm];simp
  ·rw[if_neg h,g7I (λe=>h e.symm),Bool.false_or];exact ih
theorem e7W {nm:Nm} {n:Int}:∀ {l:Ks},look nm l=none->d4P nm n l=l++[(nm,n)]
 |[],_=>rfl
 |(j,m)::r,h=>by
  rw[look] at h
  by_cases hj:nm=j
  ·rw[if_pos hj] at h;cases h
  ·rw[if_neg hj] at h
   rw[d4P,if_neg hj,e7W h];rfl
theorem e7X {nm:Nm}:∀ {fz:Fz},e4Y nm fz=false->look nm (fz.map λp=>(p.1.name,p.2))=none
 |[],_=>rfl
 |p::r,h=>by
  have hh:e4Y nm (p::r)=(decide (p.1.name=nm) || e4Y nm r):=rfl
  rw[hh,g4W,g7J] at h
  rw[g6E,look,if_neg (λe=>h.1 e.symm)]
  exact e7X h.2
theorem e7Y:∀ (l:List Pa) (ns:Ns) (w:Int),(∀ p,p∈l->Gt p.ty)->NsG ns ->
  (∀ s,e4X l ns=some s->d4F l ns w=(0,s,w)/\NsG s)/\(e4X l ns=none->(d4F l ns w).1=5):=by
 intro l
 induction l with
 |nil =>
  intro ns w _ hn
  rw[e4X,d4F]
  exact⟨λs h=>(by injection h with h;subst h;exact⟨rfl,hn⟩),λh=>(by cases h)⟩
 |cons p r ih =>
  intro ns w hp hn
  rw[e4X,d6Q]
  unfold d4A
  cases hl:look p.name ns with
  |some x=>exact⟨λs h=>(by cases h),λ_=>by simp⟩
  |none =>
   simp only[ne_eq,not_true_eq_false,if_false]
   exact ih _ w (λq hq=>hp q (by simp [hq])) (hn.add _ ⟨hp p (by simp),λh=>by cases h⟩)
structure FG (f:Fu):Prop where
 par:∀ q,q∈f.params->Gt q.ty
 res:Gt f.res
 body:∀ s,s∈f.body->SG s
 ret:EG f.ret
theorem e7Z {fz:Fz} {fs:Fs} {ks:Ks} (hR:Rel fz fs ks) {f:Fu} (hf:FG f) {b:Int} (hb:0<=b) (hb1:b<=63) :
  (d4G fs f b).1=(e4Z fz f b).1/\((e4Z fz f b).1=0->Rel (e4Z fz f b).2.1 (d4G fs f b).2.1 (d4Q [f] ks)/\(d4G fs f b).2.2=(e4Z fz f b).2.2/\0<=(e4Z fz f b).2.2/\(e4Z fz f b).2.2<=63):=by
 have hbad:∀ {x:Int×Fs×Int} {y:Int×Fz×Int},x.1≠0->x.1=y.1->(x.1=y.1/\(y.1=0->Rel y.2.1 x.2.1 (d4Q [f] ks)/\x.2.2=y.2.2/\0<=y.2.2/\y.2.2<=63)) :=
  λh1 h2=>⟨h2,λh=>absurd (h2.trans h) h1⟩
 cases hh:e4Y f.name fz with
 |true =>
  have hl:∃ x,look f.name fs=some x:=by
   cases hq:look f.name fs with
   |some x=>exact⟨x,rfl⟩
   |none=>rw[hR.fs] at hq;rw[hasF_look.1 hq] at hh;cases hh
  obtain⟨x,hx⟩:=hl
  rw[d6V fs f b hx]
  have:e4Z fz f b=(5,fz,b):=by unfold e4Z;rw[hh,if_pos rfl]
  rw[this]
  exact hbad (by simp) (by simp)
 |false =>
  have hl:look f.name fs=none:=by rw[hR.fs];exact hasF_look.2 hh
  have hk:look f.name ks=none:=by rw[hR.ks];exact e7X hh
  rw[d6U fs f b hl]
  unfold e4Z
  rw[hh,ft]
  obtain⟨p1,p2⟩:=e7Y f.params [] b hf.par (λp hp=>by cases hp)
  cases hp:e4X f.params [] with
  |none =>
   have h5:(d4F f.params [] b).1≠0:=by rw[p2 hp];decide
   rw[if_pos h5]
   exact hbad h5 (p2 hp)
  |some s =>
   obtain⟨e1,hs⟩:=p1 s hp
   rw[e1]
   simp only[ne_eq,not_true_eq_false,if_false]
   have hq:=e7B hR hf.body hs e6Q hb
   rw[show max b zR.bits=b from by show max b 0=b;omega,show zR.steps=0 from rfl] at hq
   by_cases he:(e4V fz f.body zR s).1.err=0
   ·obtain⟨v1,v2,v3,v4,v5⟩:=hq.val he
    have hm:=hq.err.2 he
    rw[if_neg (show ¬(¬(d4C fs f.body s b).1=0) from λx=>x hm),if_neg (show ¬(¬(e4V fz f.body zR s).1.err=0) from λx=>x he),v1,v2]
    have hb0:=v5.b0
    have hx:=e6P hR v4 f.ret hf.ret (max b (e4V fz f.body zR s).1.bits) (by omega)
    by_cases he2:(exR fz (e4V fz f.body zR s).2 f.ret).err=0
    ·obtain⟨u1,u2,u3,u4⟩:=hx.val he2
     have hm2:=hx.err.2 he2
     rw[if_neg (show ¬(¬(exM fs (e4V fz f.body zR s).2 f.ret (max b (e4V fz f.body zR s).1.bits)).1.2=0) from λx=>x hm2),if_neg (show ¬(¬(exR fz (e4V fz f.body zR s).2 f.ret).err=0) from λx=>x he2),u1,u2,e5P u4.t hf.res]
     cases hfit:d3K (exR fz (e4V fz f.body zR s).2 f.ret).t f.res with
     |false=>rw[ff,ff];exact hbad (by simp) (by simp)
     |true =>
      rw[tf,tf]
      have w0:=v5.s0
      have w1:=v5.s1
      have w2:=u4.s0
      have w3:=u4.s1
      have hst:mn 20001 (d4N ks f.body 0+csE ks f.ret)=e3Z (IntKind.i64.wrap ((e4V fz f.body zR s).1.steps+(exR fz (e4V fz f.body zR s).2 f.ret).steps)):=by
       rw[<-v3,<-u3,e5H,e5J (by omega) (by omega),e5I]
      have c1:=v5.b1
      have c2:=u4.b1
      refine⟨by simp,λ_=>⟨⟨?_,?_,?_⟩,?_,?_,?_⟩⟩
      ·simp only[g6D,g6E,g6F,hR.fs]
      ·simp only[d4Q,g6D,g6E,g6F]
       rw[e7W hk,hst,hR.ks]
      ·intro p hp
       rcases g6G.1 hp with h|h
       ·exact hR.ok p h
       ·rw[g6M.1 h]
        exact⟨hf.res,hf.par,by rw[<-hst,e5H,<-v3,<-u3];omega,by rw[<-hst,e5H];omega⟩
      ·simp only;rw[e5F,e5F];omega
      ·simp only;rw[e5F,e5F];omega
      ·simp only;rw[e5F,e5F];omega
    ·have hm2:(exM fs (e4V fz f.body zR s).2 f.ret (max b (e4V fz f.body zR s).1.bits)).1.2≠0:=λx=>he2 (hx.err.1 x)
     rw[if_pos hm2,if_pos he2]
     exact hbad hm2 hx.eq
   ·have hm:(d4C fs f.body s b).1≠0:=λx=>he (hq.err.1 x)
    rw[if_pos hm,if_pos he]
    exact hbad hm hq.eq
theorem e8A:∀ (l:List Fu) (fz:Fz) (fs:Fs) (ks:Ks) (b:Int),Rel fz fs ks->(∀ f,f∈l->FG f)->0<=b->b<=63 ->
  (d4H l fs b).1=(e5A l fz b).1/\((e5A l fz b).1=0->Rel (e5A l fz b).2.1 (d4H l fs b).2.1 (d4Q l ks)/\(d4H l fs b).2.2=(e5A l fz b).2.2/\0<=(e5A l fz b).2.2/\(e5A l fz b).2.2<=63):=by
 intro l
 induction l with
 |nil =>
  intro fz fs ks b hR _ hb hb1
  rw[d4H,e5A,d4Q]
  exact⟨rfl,λ_=>⟨hR,rfl,hb,hb1⟩⟩
 |cons f r ih =>
  intro fz fs ks b hR hF hb hb1
  obtain⟨g1,g2⟩:=e7Z hR (hF f (by simp)) hb hb1
  rw[d6W,e5A]
  by_cases he:(e4Z fz f b).1=0
  ·obtain⟨h1,h2,h3,h4⟩:=g2 he
   rw[if_neg (show ¬((d4G fs f b).1≠0) from λx=>x (g1.trans he)),if_neg (show ¬((e4Z fz f b).1≠0) from λx=>x he),h2]
   have:=ih _ _ _ _ h1 (λx hx=>hF x (by simp [hx])) h3 h4
   simpa only [d4Q] using this
  ·have hm:(d4G fs f b).1≠0:=λx=>he (g1.symm.trans x)
   rw[if_pos hm,if_pos he]
   exact⟨g1,λx=>absurd x he⟩
theorem e8B {t:Ty} (h:Gt t):mx t.len 1=elM t:=by
 have:=h.l0
 unfold elM
 rw[e5G]
 split <;> omega
theorem e8C:∀ (l:List De) (ns:Ns) (x:Inf),(∀ d,d∈l->Gt d.ty)->NsG ns->0<=x.bits->x.bits<=63 ->
  (∀ s y,e5D l ns x=some (s,y)->d4I l ns x.bits=(0,s,y.bits)/\NsG s/\0<=y.bits/\y.bits<=63/\d7V l x.pub x.sec=(y.pub,y.sec))/\(e5D l ns x=none->(d4I l ns x.bits).1=5):=by
 intro l
 induction l with
 |nil =>
  intro ns x _ hn hb hb1
  rw[e5D,d4I]
  refine⟨λs y h=>?_,λh=>by cases h⟩
  injection h with h
  injection h with h1 h2
  subst h1 h2
  exact⟨rfl,hn,hb,hb1,by rw[d7V]⟩
 |cons d r ih =>
  intro ns x hp hn hb hb1
  rw[e5D,d6S]
  unfold d4A
  cases hl:look d.name ns with
  |some z=>exact⟨λs y h=>(by cases h),λ_=>by simp⟩
  |none =>
   simp only[ne_eq,not_true_eq_false,if_false]
   have hd:=hp d (by simp)
   have hd0:0<=e4B d.ty:=by unfold e4B;have:=hd.b0;split <;> omega
   have hd1:e4B d.ty<=63:=by unfold e4B;have:=hd.b1;split <;> omega
   have hbits:(e5C d x).bits=d4B d.ty x.bits:=by rw[e6R _ hb];exact e5F _ _
   have:=ih (ns++[(d.name,⟨d.ty,false,0,0⟩)]) (e5C d x) (λq hq=>hp q (by simp [hq])) (hn.add _ ⟨hd,λh=>by cases h⟩) (by rw[hbits,e6R _ hb];omega) (by rw[hbits,e6R _ hb];omega)
   rw[hbits] at this
   refine⟨λs y h=>?_,this.2⟩
   obtain⟨a,b,c,c',e⟩:=this.1 s y h
   refine⟨a,b,c,c',?_⟩
   rw[d7V,e8B hd,<-e]
   unfold e5C
   cases d.pub <;> simp
structure PG (p:Pg):Prop where
 ok:PgOk p
 fs:∀ f,f∈p.funcs->d2G f.body<=B20/\szE f.ret<=B20
 bs:d2G p.body<=B20
theorem PG.fun {p:Pg} (hp:PG p) (hv:p.funcs.all fuB=true):∀ f,f∈p.funcs->FG f:=by
 intro f hf
 have h:=g5A.1 hv f hf
 unfold fuB at h
 simp only[g4S] at h
 obtain⟨⟨⟨⟨_,h2⟩,h3⟩,h4⟩,h5⟩:=h
 have ho:=hp.ok.fo f hf
 obtain⟨z1,z2⟩:=hp.fs f hf
 refine⟨λq hq=>?_,e5L h3,λs hs=>⟨g5A.1 h4 s hs,ho.bo s hs,g6V (d2M hs) z1⟩,⟨h5,ho.ret,z2⟩⟩
 have:=g5A.1 h2 q hq
 unfold paB at this
 rw[g4S] at this
 exact e5L this.2
theorem e8D {p:Pg} (hp:PG p):((d4S p).2.2=0↔(e5E p).err=0)/\((e5E p).err=0->(d4S p).1=(e5E p).bits/\0<=(e5E p).bits/\(e5E p).bits<=63/\d7V p.decls 0 0=((e5E p).pub,(e5E p).sec))/\((e5E p).err≠0->(e5E p).bits=0/\(e5E p).pub=0/\(e5E p).sec=0):=by
 have hbad:∀ e:Int,e≠0->e5E p=e5B e->(d4S p).2.2≠0->(((d4S p).2.2=0↔(e5E p).err=0)/\((e5E p).err=0->(d4S p).1=(e5E p).bits/\0<=(e5E p).bits/\(e5E p).bits<=63/\d7V p.decls 0 0=((e5E p).pub,(e5E p).sec))/\((e5E p).err≠0->(e5E p).bits=0/\(e5E p).pub=0/\(e5E p).sec=0)):=by
  intro e he h1 h2
  rw[h1]
  exact⟨⟨λh=>absurd h h2,λh=>absurd h he⟩,λh=>absurd h he,λ_=>⟨rfl,rfl,rfl⟩⟩
 by_cases hv:d3J p=0
 ·obtain⟨b1,b2,b3,_,_⟩:=valid_zero.1 hv
  have hrv:=valid_eq.2 hv
  obtain⟨g0,g2⟩:=e8A p.funcs [] [] [] 0 ⟨rfl,rfl,λp hp=>by cases hp⟩ (hp.fun b1) (by omega) (by omega)
  have g1:(d4H p.funcs [] 0).1=0↔(e5A p.funcs [] 0).1=0:=by rw[g0]
  have hM:e5E p=if (e5A p.funcs [] 0).1≠0 then e5B (e5A p.funcs [] 0).1
    else match e5D p.decls [] ⟨0,(e5A p.funcs [] 0).2.2,0,0,0⟩ with
    |none=>e5B 5
    |some (ns,x) =>
     if (e4V (e5A p.funcs [] 0).2.1 p.body zR ns).1.err≠0 then e5B (e4V (e5A p.funcs [] 0).2.1 p.body zR ns).1.err
     else if (e4V (e5A p.funcs [] 0).2.1 p.body zR ns).1.steps > 20000 then e5B 3
     else ⟨0,grM x.bits (e4V (e5A p.funcs [] 0).2.1 p.body zR ns).1.bits,x.pub,x.sec,(e4V (e5A p.funcs [] 0).2.1 p.body zR ns).1.steps⟩:=by
   unfold e5E
   rw[if_neg (show ¬(rvP p≠0) from λx=>x hrv)] <;> rfl
  by_cases hf:(e5A p.funcs [] 0).1=0
  ·obtain⟨r1,r2,r3,r4⟩:=g2 hf
   rw[if_neg (show ¬((e5A p.funcs [] 0).1≠0) from λx=>x hf)] at hM
   have hdt:∀ d,d∈p.decls->Gt d.ty:=λd hd=>by
    have:=g5A.1 b2 d hd
    unfold deB at this
    rw[g4S] at this
    exact e5L this.2
   obtain⟨d1,d2⟩:=e8C p.decls [] ⟨0,(e5A p.funcs [] 0).2.2,0,0,0⟩ hdt (λp hp=>by cases hp) r3 r4
   cases hd:e5D p.decls [] ⟨0,(e5A p.funcs [] 0).2.2,0,0,0⟩ with
   |none =>
    rw[hd] at hM
    refine hbad 5 (by decide) hM λh=>absurd ((d2 hd).symm.trans ?_) (show(5:Int)≠0 by decide)
    have:=(prog_ok.1 (exam_ok.1 h).2.1).2.1
    rw[r2] at this
    exact this
   |some q =>
    obtain⟨s,y⟩:=q
    rw[hd] at hM
    simp only at hM
    obtain⟨e1,e2,e3,e5,e4⟩:=d1 s y hd
    simp only at e1 e4
    have hbo:∀ a,a∈p.body->SG a:=λa ha=>⟨g5A.1 b3 a ha,hp.ok.bo a ha,g6V (d2M ha) hp.bs⟩
    have hq:=e7B r1 hbo e2 e6Q e3
    rw[show max y.bits zR.bits=y.bits from by show max y.bits 0=_;omega,show zR.steps=0 from rfl] at hq
    by_cases he:(e4V (e5A p.funcs [] 0).2.1 p.body zR s).1.err=0
    ·obtain⟨v1,v2,v3,v4,v5⟩:=hq.val he
     rw[if_neg (show ¬((e4V (e5A p.funcs [] 0).2.1 p.body zR s).1.err≠0) from λx=>x he)] at hM
     have hpr:(d4J p).1=0:=prog_ok.2 ⟨g1.2 hf,by rw[r2,e1],by rw[r2,e1];exact hq.err.2 he⟩
     have hsp:d4R p=(e4V (e5A p.funcs [] 0).2.1 p.body zR s).1.steps:=v3.symm
     by_cases hst:(e4V (e5A p.funcs [] 0).2.1 p.body zR s).1.steps > 20000
     ·rw[if_pos hst] at hM
      refine hbad 3 (by decide) hM λh=>?_
      have:=(exam_ok.1 h).2.2
      omega
     ·rw[if_neg hst] at hM
      have hx:(d4S p).2.2=0:=exam_ok.2 ⟨hv,hpr,by omega⟩
      rw[hM]
      refine⟨⟨λ_=>rfl,λ_=>hx⟩,λ_=>⟨?_,?_,?_,e4⟩,λh=>absurd rfl h⟩
      rotate_left
      ·show 0<=grM _ _;rw[e5F];omega
      ·have:=v5.b1;show grM _ _<=63;rw[e5F];omega
      rw[d8I hx,d8J hpr,r2,e1]
      show(d4C _ p.body s y.bits).2.2=grM _ _
      rw[v2,e5F]
    ·rw[if_pos he] at hM
     refine hbad _ he hM λh=>he (hq.err.1 ?_)
     have:=(prog_ok.1 (exam_ok.1 h).2.1).2.2
     rw[r2,e1] at this
     exact this
  ·rw[if_pos hf] at hM
   exact hbad _ hf hM λh=>hf (g1.1 (prog_ok.1 (exam_ok.1 h).2.1).1)
 ·have hrv:rvP p≠0:=λh=>hv (valid_eq.1 h)
  refine hbad 1 (by decide) (by unfold e5E;rw[if_pos hrv]) λh=>hv (exam_ok.1 h).1
theorem e8E {p:Pg} (h:(d4H p.funcs [] 0).1≠0):(d4J p).1=(d4H p.funcs [] 0).1:=by
 unfold d4J
 generalize hm:d4H p.funcs [] 0=q at *
 obtain⟨d,fs,w⟩:=q
 simp only
 rw[if_pos h]
theorem e8F {p:Pg} (h:(d4H p.funcs [] 0).1=0) (h2:(d4I p.decls [] (d4H p.funcs [] 0).2.2).1≠0):(d4J p).1=(d4I p.decls [] (d4H p.funcs [] 0).2.2).1:=by
 unfold d4J
 generalize hm:d4H p.funcs [] 0=q at *
 obtain⟨d,fs,w⟩:=q
 simp only at *
 rw[if_neg (by simpa using h)]
 generalize hm2:d4I p.decls [] w=q2 at *
 obtain⟨d2,ns2,w2⟩:=q2
 simp only at *
 rw[if_pos h2]
theorem e8G {p:Pg} (h:(d4H p.funcs [] 0).1=0) (h2:(d4I p.decls [] (d4H p.funcs [] 0).2.2).1=0):(d4J p).1=(d4C (d4H p.funcs [] 0).2.1 p.body (d4I p.decls [] (d4H p.funcs [] 0).2.2).2.1 (d4I p.decls [] (d4H p.funcs [] 0).2.2).2.2).1:=by
 unfold d4J
 generalize hm:d4H p.funcs [] 0=q at *
 obtain⟨d,fs,w⟩:=q
 simp only at *
 rw[if_neg (by simpa using h)]
 generalize hm2:d4I p.decls [] w=q2 at *
 obtain⟨d2,ns2,w2⟩:=q2
 simp only at *
 rw[if_neg (by simpa using h2)]
 unfold d4D
 generalize hm3:d4C fs p.body ns2 w2=q3 at *
 obtain⟨d3,ns3,w3⟩:=q3
 simp only
 by_cases h3:d3≠0
 ·rw[if_pos h3]
 ·rw[if_neg h3];simpa using (Decidable.not_not.1 h3).symm
theorem e8H {p:Pg}:(d4S p).2.2=if d3J p≠0 then 1 else if (d4J p).1≠0 then (d4J p).1 else if d4R p > 20000 then 3 else 0:=by
 unfold d4S
 split
 ·rfl
 ·generalize d4J p=q
  obtain⟨d,w⟩:=q
  simp only
  split
  ·rfl
  ·split <;> rfl
theorem e8I {p:Pg} (hp:PG p):(d4S p).2.2=(e5E p).err:=by
 have hS:=e8D hp
 by_cases hz:(e5E p).err=0
 ·rw[hz];exact hS.1.2 hz
 have hz1:(d4S p).2.2≠0:=λh=>hz (hS.1.1 h)
 rw[e8H] at hz1 ⊢
 by_cases hv:d3J p=0
 ·have hrv:=valid_eq.2 hv
  obtain⟨b1,b2,b3,_,_⟩:=valid_zero.1 hv
  rw[if_neg (λx=>x hv)] at hz1 ⊢
  unfold e5E at hz ⊢
  rw[if_neg (show ¬(rvP p≠0) from λx=>x hrv)] at hz ⊢
  have hFG:=hp.fun b1
  have hrel:Rel [] [] []:=⟨rfl,rfl,λp hp=>by cases hp⟩
  obtain⟨gf,g2⟩:=e8A p.funcs [] [] [] 0 hrel hFG (by omega) (by omega)
  by_cases hf:(e5A p.funcs [] 0).1=0
  ·obtain⟨r1,r2,r3,r4⟩:=g2 hf
   have hf0:=gf.trans hf
   rw[if_neg (show ¬((e5A p.funcs [] 0).1≠0) from λx=>x hf)] at hz ⊢
   have hdt:∀ d,d∈p.decls->Gt d.ty:=λd hd=>by
    have:=g5A.1 b2 d hd
    unfold deB at this
    rw[g4S] at this
    exact e5L this.2
   obtain⟨d1,d2⟩:=e8C p.decls [] ⟨0,(e5A p.funcs [] 0).2.2,0,0,0⟩ hdt (λp hp=>by cases hp) r3 r4
   cases hd:e5D p.decls [] ⟨0,(e5A p.funcs [] 0).2.2,0,0,0⟩ with
   |none =>
    have he:=d2 hd
    simp only at he
    rw[<-r2] at he
    have hpe:=e8F hf0 (by rw[he];decide)
    rw[he] at hpe
    rw[hpe];rfl
   |some q =>
    obtain⟨s,y⟩:=q
    rw[hd] at hz
    simp only at hz ⊢
    obtain⟨e1,e2,e3,e5,e4⟩:=d1 s y hd
    simp only at e1
    rw[<-r2] at e1
    have hbo:∀ a,a∈p.body->SG a:=λa ha=>⟨g5A.1 b3 a ha,hp.ok.bo a ha,g6V (d2M ha) hp.bs⟩
    have gq:=(e7B r1 hbo e2 e6Q e3).eq
    rw[show max y.bits zR.bits=y.bits from by show max y.bits 0=_;omega] at gq
    have hpe:=e8G hf0 (by rw[e1])
    rw[e1] at hpe
    rw[hpe,gq]
    by_cases he:(e4V (e5A p.funcs [] 0).2.1 p.body zR s).1.err=0
    ·rw[if_neg (show ¬((e4V (e5A p.funcs [] 0).2.1 p.body zR s).1.err≠0) from λx=>x he)] at hz ⊢
     rw[if_neg (show ¬((e4V (e5A p.funcs [] 0).2.1 p.body zR s).1.err≠0) from λx=>x he)]
     have hpr:(d4J p).1=0:=by rw[hpe,gq];exact he
     rw[if_neg (by rw[hpr];simp)] at hz1
     have h3:d4R p > 20000:=Decidable.byContradiction λh=>hz1 (by rw[if_neg h])
     rw[if_pos h3]
     by_cases hst:(e4V (e5A p.funcs [] 0).2.1 p.body zR s).1.steps > 20000
     ·rw[if_pos hst];rfl
     ·rw[if_neg hst] at hz
      exact absurd rfl hz
    ·rw[if_pos he,if_pos he];rfl
  ·have hpe:=e8E (by rw[gf];exact hf)
   rw[hpe,gf,if_pos hf,if_pos hf];rfl
 ·rw[if_pos hv]
  unfold e5E
  rw[if_pos (λh=>hv (valid_eq.1 h))];rfl
end Go.Ky
