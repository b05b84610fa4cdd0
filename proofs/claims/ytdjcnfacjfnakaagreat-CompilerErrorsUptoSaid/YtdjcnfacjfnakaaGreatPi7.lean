/- PI 5: operations that change nothing. -/
import Derived.Test.YtdjcnfacjfnakaaGreatPi4
import Derived.Laws.Cells
import Derived.Laws.Entries
import Derived.Laws.StructEq
import Derived.ChangeKeysEq
import Derived.Lib.Strings
set_option linter.unusedSimpArgs false
set_option linter.unusedVariables false
namespace Go.Pi
variable {P:Program} {tb:Tb} {fx:List (Nat×Nat)} {gl:Nat->Option (List T)} {G:Gh} {w:World} {sg:Sg} {ow:Ow} {nt:Nat} {a:Act} {fr:List PV}
theorem a4D {st:Nat->Nat->Prop} {v:Value} {x:T} (h:a1T v=some x):TRep st w v x:=by
 unfold a1T at h
 split at h <;> simp at h <;> subst h
 ·exact .bool _
 ·exact .int _ _
 ·exact .str _
 ·exact .nptr
 ·exact .nsl
 ·exact .nif
 ·exact .nfn
 ·exact .nmp
theorem a4E {α β:Type} (f:α->Option β) (l:List α) (r:List β) (h:l.mapM f=some r):l.length=r.length/\∀ (i:Nat) (x:α) (y:β),l[i]?=some x->r[i]?=some y->f x=some y:=by
 induction l generalizing r with
 |nil=>simp at h;subst h;simp
 |cons a l ih =>
  rw[g6C] at h
  simp only[Option.bind_eq_bind,g7C,Option.pure_def,g7G] at h
  obtain⟨b,hb,r',hr',rfl⟩:=h
  obtain⟨h1,h2⟩:=ih r' hr'
  refine⟨by simp [h1],λi x y hx hy=>?_⟩
  cases i with
  |zero=>simp at hx hy;subst hx hy;exact hb
  |succ i=>simp at hx hy;exact h2 i x y hx hy
theorem a4F {v:Value} {x:PV} (h:a1U v=some x):PRep fx G w v x:=by
 unfold a1U at h
 split at h
 ·rename_i cs
  simp only[g7E] at h
  obtain⟨l,hl,rfl⟩:=h
  obtain⟨h1,h2⟩:=a4E _ _ _ hl
  exact .t (.agg cs l (by simpa using h1) λi v x hv hx=>a4D (h2 i v x (by simpa using hv) hx))
 ·simp only[g7E] at h
  obtain⟨y,hy,rfl⟩:=h
  exact .t (a4D hy)
theorem a4G {l:List (Nat×Nat)} {f k:Nat} (h:a1V l f=some k):(k,f)∈l:=by
 induction l with
 |nil=>simp [a1V] at h
 |cons x r ih =>
  obtain⟨k',g⟩:=x
  simp only[a1V] at h
  split at h
  ·rename_i hg
   injection h with h
   subst h hg
   simp
  ·exact g6I _ (ih h)
theorem a4H {x:Operand} {y:Opd} (h:a1W tb nt x=some y) (hf:FRep tb.fx G w nt a fr):PRep tb.fx G w (a.eval x) (y.ev fr):=by
 cases x with
 |tmp k =>
  simp only[a1W] at h
  split at h
  ·rename_i hk
   injection h with h
   subst h
   exact hf.2.2 k hk
  ·cases h
 |const v =>
  simp only[a1W,g7E] at h
  obtain⟨p,hp,rfl⟩:=h
  exact a4F hp
 |global g =>
  simp only[a1W,g7G] at h
  subst h
  exact .gp g 0
 |func f =>
  simp only[a1W,g7E] at h
  obtain⟨k,hk,rfl⟩:=h
  exact .fn k f #[] [] (a4G hk) rfl (λi v x hv=>by simp at hv)
theorem a4I {xs:List Operand} {ys:List Opd} (h:a1Y tb nt xs=some ys) (hf:FRep tb.fx G w nt a fr) :
  xs.length=ys.length/\∀ (i:Nat) (x:Operand) (y:Opd),xs[i]?=some x->ys[i]?=some y->PRep tb.fx G w (a.eval x) (y.ev fr):=by
 induction xs generalizing ys with
 |nil=>simp [a1Y] at h;subst h;simp
 |cons x r ih =>
  simp only[a1Y] at h
  split at h
  ·rename_i y ys' h1 h2
   injection h with h
   subst h
   obtain⟨e1,e2⟩:=ih h2
   refine⟨by simp [e1],λi x' y' hx hy=>?_⟩
   cases i with
   |zero=>simp at hx hy;subst hx hy;exact a4H h1 hf
   |succ i=>simp at hx hy;exact e2 i x' y' hx hy
  ·cases h
theorem a4J {xs:Array Operand} {ys:List Opd} (h:a1Y tb nt xs.toList=some ys) (hf:FRep tb.fx G w nt a fr):a1N tb.fx G w (xs.map a.eval) (ys.map (Opd.ev fr)):=by
 obtain⟨h1,h2⟩:=a4I h hf
 refine⟨by simpa using h1,λi v x hv hx=>?_⟩
 simp only[Array.getElem?_map,g7E,g5P] at hv hx
 obtain⟨p,hp,rfl⟩:=hv
 obtain⟨q,hq,rfl⟩:=hx
 exact h2 i p q (by simpa using hp) hq
theorem PRep.int_inv {v:Value} {k:IntKind} {n:Int} (h:PRep fx G w v (.t (.int k n))):v=.int k n:=by
 cases h with|t h=>cases h;rfl
theorem PRep.bool_inv {v:Value} {b:Bool} (h:PRep fx G w v (.t (.bool b))):v=.bool b:=by
 cases h with|t h=>cases h;rfl
theorem PRep.str_inv {v:Value} {l:List UInt8} (h:PRep fx G w v (.t (.str l))):∃ s:ByteArray,v=.string s/\s.data.toList=l:=by
 cases h with|t h=>cases h;exact⟨_,rfl,rfl⟩
theorem PRep.of_bool {b:Bool} {x:PV} (h:PRep fx G w (.bool b) x):x=.t (.bool b):=by
 cases h with|t h=>cases h;rfl
theorem PRep.tint (k:IntKind) (n:Int):PRep fx G w (.int k n) (.t (.int k n)):=.t (.int k n)
theorem PRep.tbool (b:Bool):PRep fx G w (.bool b) (.t (.bool b)):=.t (.bool b)
theorem PRep.tstr {s:ByteArray} {l:List UInt8} (h:s.data.toList=l):PRep fx G w (.string s) (.t (.str l)):=h ▸ .t (.str s)
theorem PRep.agg_inv {v:Value} {xs:List T} (h:PRep fx G w v (.t (.agg xs))):∃ cs:Array Value,v=.agg cs/\cs.size=xs.length/\∀ (i:Nat) (u:Value) (x:T),cs[i]?=some u->xs[i]?=some x->TRep G.st w u x:=by
 cases h with|t h=>cases h with|agg cs _ hl hr=>exact⟨cs,rfl,hl,hr⟩
theorem PRep.bf_ls {v:Value} {id len sz:Nat} (h:PRep fx G w v (.bf id len sz)):PRep fx G w v (.ls id 0 len sz):=by
 cases h with|bf _ _ _ cap b hb hcap _=>exact .ls id 0 len sz cap b _ hb hcap (.inr rfl)
theorem a4K {α:Type} {c:Array α} {n j:Nat} {v:α} (h:(c.extract 0 n)[j]?=some v):c[j]?=some v:=by
 have hlt:=(g4P.1 h).1
 rw[g4O hlt,Array.getElem_extract] at h
 rw[<-h]
 simp only[g7A]
 have:j < c.size:=by simp at hlt;omega
 rw[g4O this]
theorem PRep.aggP_inv {v:Value} {xs:List PV} (h:PRep fx G w v (.agg xs)):∃ cs:Array Value,v=.agg cs/\cs.size=xs.length/\∀ (i:Nat) (u:Value) (x:PV),cs[i]?=some u->xs[i]?=some x->PRep fx G w u x:=by
 cases h with|agg cs _ hl hr=>exact⟨cs,rfl,hl,hr⟩
theorem a4L {v:Value} {x:PV} (h:PRep fx G w v x) (h1:∀ cs,x≠.t (.agg cs)) (h2:∀ cs,x≠.agg cs):v.cells=#[v]:=by
 cases h with
 |t h=>cases h <;> first|rfl|exact absurd rfl (h1 _)
 |agg=>exact absurd rfl (h2 _)
 |_=>rfl
theorem a4M {v:Value} {x:PV} (h:PRep fx G w v x):v.cells.size=(cellsP x).length/\∀ (j:Nat) (u:Value) (y:PV),v.cells[j]?=some u->(cellsP x)[j]?=some y->PRep fx G w u y:=by
 by_cases h1:∃ cs,x=.t (.agg cs)
 ·obtain⟨cs,rfl⟩:=h1
  obtain⟨c,rfl,hl,hr⟩:=h.agg_inv
  refine⟨by simpa [Value.cells,cellsP] using hl,λj u y hu hy=>?_⟩
  simp only[cellsP,g5P,g7E] at hy
  obtain⟨t,ht,rfl⟩:=hy
  exact .t (hr j u t hu ht)
 ·by_cases h2:∃ cs,x=.agg cs
  ·obtain⟨cs,rfl⟩:=h2
   obtain⟨c,rfl,hl,hr⟩:=h.aggP_inv
   exact⟨hl,hr⟩
  ·have hc:=a4L h (λcs e=>h1 ⟨cs,e⟩) (λcs e=>h2 ⟨cs,e⟩)
   have hp:cellsP x=[x]:=by
    unfold cellsP
    split
    ·exact absurd ⟨_,rfl⟩ h1
    ·exact absurd ⟨_,rfl⟩ h2
    ·rfl
   rw[hc,hp]
   refine⟨rfl,λj u y hu hy=>?_⟩
   cases j with
   |zero=>simp at hu hy;subst hu hy;exact h
   |succ j=>simp at hu
theorem a4N {cs:List PV} {ts:List T} (h:allT cs=some ts):cs=ts.map .t:=by
 induction cs generalizing ts with
 |nil=>simp [allT] at h;subst h;rfl
 |cons x r ih =>
  cases x <;> simp only[allT,g7E,reduceCtorEq] at h
  obtain⟨l,hl,rfl⟩:=h
  rw[ih hl,g6E]
theorem a4O (ts:List T):allT (ts.map .t)=some ts:=by
 induction ts with
 |nil=>rfl
 |cons x r ih=>simp [allT,ih]
theorem a4P {c:Array Value} {cs:List PV} (hl:c.size=cs.length) (hr:∀ (j:Nat) (u:Value) (y:PV),c[j]?=some u->cs[j]?=some y->PRep fx G w u y):PRep fx G w (.agg c) (mkAgg cs):=by
 unfold mkAgg
 split
 ·rename_i ts h
  have:=a4N h
  subst this
  refine .t (.agg c ts (by simpa using hl) λi v x hv hx=>?_)
  have:=hr i v (.t x) hv (by simp [hx])
  cases this with|t h=>exact h
 ·exact .agg c cs hl hr
theorem a4Q {c:Array Value} {cs:List PV} (hl:c.size=cs.length) (hr:∀ (j:Nat) (u:Value) (y:PV),c[j]?=some u->cs[j]?=some y->PRep fx G w u y) {t:TypeId} {ag:Bool} {n off:Nat} {r:PV}
  (_hag:a1Z P t=some ag) (_hsz:a2A P t=some n) (h:partP ag n cs off=some r) :
  (ag=true/\off+n<=c.size/\PRep fx G w (.agg (c.extract off (off+n))) r)\/(ag=false/\∃ u,c[off]?=some u/\PRep fx G w u r):=by
 unfold partP at h
 cases ag with
 |true =>
  simp only[if_true] at h
  split at h
  ·rename_i hb
   injection h with h
   subst h
   refine .inl ⟨rfl,by omega,a4P (by simp;omega) λj u y hu hy=>?_⟩
   rw[g5U,g5L] at hy
   split at hy
   ·rename_i hj
    refine hr (off+j) u y ?_ hy
    rw[<-hu]
    simp [Array.getElem?_extract]
    omega
   ·cases hy
  ·cases h
 |false =>
  simp only[g4T,if_false] at h
  have hlt:off < cs.length:=(g5O.1 h).1
  exact .inr ⟨rfl,c[off]'(by omega),g4O (by omega),hr off _ r (g4O (by omega)) h⟩
theorem a4R (ag:Bool) (n:Nat) (cs:List T) (off:Nat):partT ag n cs off=partP ag n (cs.map .t) off:=by
 unfold partT partP
 cases ag with
 |true =>
  simp only[if_true,g5Y]
  split
  ·rw[<-List.map_drop,<-List.map_take]
   unfold mkAgg
   rw[a4O]
  ·rfl
 |false=>simp
theorem a4S {t:TypeId} {ag:Bool} (h:a1Z P t=some ag) (w:World):(isAgg t).run P w=.ok ag w:=by
 unfold a1Z at h
 simp only[isAgg,Sem.run_bind]
 split at h <;> rename_i h2 <;> first
  |(injection h with h;subst h;simp only[run_underlying h2,Result.andThen_ok];rfl)
  |(rename_i d h3 h4;injection h with h;subst h;simp only[run_underlying h2,Result.andThen_ok];cases d <;> first|rfl|(exact absurd rfl (h3 _))|(exact absurd rfl (h4 _ _)))
  |cases h
theorem a4T {t:TypeId} {i:TypeInfo} (h:P.info? t=some i) (w:World):(typeInfo t).run P w=.ok i w:=by simp [typeInfo,h]
theorem a4U {t:TypeId} {n:Nat} (h:a2A P t=some n) (w:World):(sizeOf t).run P w=.ok n w:=by
 simp only[a2A,g7E] at h
 obtain⟨i,hi,rfl⟩:=h
 simp [sizeOf,a4T hi]
theorem a4V {t:TypeId} {ag:Bool} {n off:Nat} {c:Array Value} (hag:a1Z P t=some ag) (hsz:a2A P t=some n) (w:World) :
  (part t c off).run P w=if ag then .ok (.agg (c.extract off (off+n))) w else match c[off]? with
   |some v=>.ok v w
   | none => .halt (.stuck "part: no such cell") w := by
 simp only[part,Sem.run_bind,a4S hag,Result.andThen_ok]
 cases ag with
 |true=>simp [a4U hsz]
 |false =>
  simp only[g4T,if_false]
  cases c[off]? <;> rfl
theorem a4W (b o n:Nat):Addr.add ⟨b,o,none⟩ n=⟨b,o+n,none⟩:=by unfold Addr.add;split <;> simp_all
theorem a4X {t:TypeId} {ag:Bool} {n b o:Nat} {c:Array Value} {cs:List PV} {r:PV} {off:Nat} (hag:a1Z P t=some ag) (hsz:a2A P t=some n) (hl:c.size=cs.length)
  (hc:∀ j v,c[j]?=some v->w.cell? ⟨b,o+j,none⟩=some v) (hr:∀ (j:Nat) (u:Value) (y:PV),c[j]?=some u->cs[j]?=some y->PRep fx G w u y) (h:partP ag n cs off=some r) :
  ∃ v,(loadVar t ⟨b,o+off,none⟩).run P w=.ok v w/\PRep fx G w v r:=by
 rcases a4Q (P:=P) hl hr hag hsz h with⟨rfl,hb,hp⟩|⟨rfl,u,hu,hp⟩
 ·refine⟨_,?_,hp⟩
  simp only[loadVar,Sem.run_bind,a4S hag,Result.andThen_ok,if_true,a4U hsz]
  rw[run_loadCells w ⟨b,o+off,none⟩ n (λj=>c[off+j]?.getD undef) (λj hj=>by
   rw[a4W]
   have hlt:off+j < c.size:=by omega
   have:=hc (off+j) (c[off+j]) (g4O hlt)
   rw[Nat.add_assoc,this,g4O hlt];rfl)]
  simp only[Result.andThen_ok,Sem.run_pure]
  congr 2
  apply Array.ext_getElem?
  intro j
  simp only[g5V,g5P,Array.getElem?_extract]
  by_cases hj:j < n
  ·have:off+j < c.size:=by omega
   simp [hj,this];omega
  ·simp [hj];omega
 ·refine⟨u,?_,hp⟩
  simp only[loadVar,Sem.run_bind,a4S hag,Result.andThen_ok,g4T,if_false,run_load,hc off u hu]
theorem a4Y (hi:Inv fx gl G w sg ow) {t:TypeId} {ag:Bool} {n:Nat} {v:Value} {x r:PV} (hag:a1Z P t=some ag) (hsz:a2A P t=some n) (hv:PRep fx G w v x) (h:loadP gl sg ag n x=some r) :
  ∃ u,(Instr.loadAt t v).run P w=.ok u w/\PRep fx G w u r:=by
 unfold loadP at h
 split at h
 ·rename_i id off
  cases hv with|lp _ _ b hb =>
  split at h
  ·rename_i cs hs
   obtain⟨c,t',z,e1,e2,e3,_⟩:=hi.blk id b cs hb hs
   obtain⟨u,h1,h2⟩:=a4X (P:=P) (w:=w) (b:=b) (o:=0) (off:=off) (c:=c.extract 0 cs.length) hag hsz (by simp;omega) (λj v hj=>by rw[g7A,cell_of_row w b j c t' z e1];exact a4K hj) (λj v x hv hx=>e3 j v x (a4K hv) hx) h
   rw[g7A] at h1
   exact⟨u,by simpa [Instr.loadAt,Instr.sureAddr] using h1,h2⟩
  ·cases h
 ·rename_i cs off
  cases hv with|ip _ _ b o vs hc =>
  rw[a4R] at h
  obtain⟨u,h1,h2⟩:=a4X (P:=P) (w:=w) (b:=b) (o:=o) (off:=off) (c:=((List.range cs.length).map vs).toArray) (fx:=fx) (G:=G) hag hsz (by simp) (λj v hj=>by
   simp only[g5V,g5P,g7E] at hj
   obtain⟨q,hq,rfl⟩:=hj
   have hlt:j < cs.length:=by
    rcases g6X j cs.length with h|h
    ·exact h
    ·rw[g5N (by simpa using h)] at hq;cases hq
   rw[g5R hlt] at hq
   injection hq with hq
   subst hq
   exact(hc j (cs[j]) (g5M hlt)).1) (λj u y hu hy=>by
   simp only[g5P,g7E] at hy
   obtain⟨q,hq,rfl⟩:=hy
   have hlt:j < cs.length:=(g5O.1 hq).1
   have:u=vs j:=by
    simp only[g5V,g5P,g5R hlt,g7F,g7G] at hu
    exact hu.symm
   subst this
   exact .t (hc j q hq).2.2) h
  exact⟨u,by simpa [Instr.loadAt,Instr.sureAddr] using h1,h2⟩
 ·rename_i g off
  cases hv with|gp _ _ =>
  split at h
  ·rename_i cs hg
   rw[a4R] at h
   have hex:∀ j,j < cs.length->∃ v,w.cell? ⟨g,j,none⟩=some v/\TRep G.st w v (cs.getD j .nptr):=λj hj=>by
    obtain⟨v,e1,e2,_⟩:=hi.glob g cs j _ hg (g5M hj)
    exact⟨v,e1,by simpa [List.getD,hj] using e2⟩
   let vs:Nat->Value:=λj=>(w.cell? ⟨g,j,none⟩).getD undef
   have hvs:∀ j,j < cs.length->w.cell? ⟨g,j,none⟩=some (vs j)/\TRep G.st w (vs j) (cs.getD j .nptr):=λj hj=>by
    obtain⟨v,e1,e2⟩:=hex j hj
    have:vs j=v:=by simp [vs,e1]
    rw[this]
    exact⟨e1,e2⟩
   obtain⟨u,h1,h2⟩:=a4X (P:=P) (w:=w) (b:=g) (o:=0) (off:=off) (c:=((List.range cs.length).map vs).toArray) (fx:=fx) (G:=G) hag hsz (by simp) (λj v hj=>by
    simp only[g5V,g5P,g7E] at hj
    obtain⟨q,hq,rfl⟩:=hj
    have hlt:j < cs.length:=by
     rcases g6X j cs.length with h|h
     ·exact h
     ·rw[g5N (by simpa using h)] at hq;cases hq
    rw[g5R hlt] at hq
    injection hq with hq
    subst hq
    rw[g7A]
    exact(hvs j hlt).1) (λj u y hu hy=>by
    simp only[g5P,g7E] at hy
    obtain⟨q,hq,rfl⟩:=hy
    have hlt:j < cs.length:=(g5O.1 hq).1
    have:u=vs j:=by
     simp only[g5V,g5P,g5R hlt,g7F,g7G] at hu
     exact hu.symm
    subst this
    have:=(hvs j hlt).2
    rw[List.getD,hq] at this
    exact .t this) h
   rw[g7A] at h1
   exact⟨u,by simpa [Instr.loadAt,Instr.sureAddr] using h1,h2⟩
  ·cases h
 ·cases h
end Go.Pi

/- PI 6: integers, strings, comparison, parts, indexes, slices. -/
namespace Go.Pi
variable {P:Program} {tb:Tb} {fx:List (Nat×Nat)} {gl:Nat->Option (List T)} {G:Gh} {w:World} {sg:Sg} {ow:Ow} {nt:Nat} {a:Act} {fr:List PV}
theorem a4Z {op:BinOp} {k:IntKind} {x y:Int} {r:T} (t:TypeId) (h:a0E op k x y=some r) (w:World):∃ v,(binOp op t (.int k x) (.int k y)).run P w=.ok v w/\PRep fx G w v (.t r):=by
 cases op <;> simp only[a0E,a0D,g7F,g7G,reduceCtorEq] at h
 case quo =>
  split at h
  ·cases h
  ·rename_i hy
   injection h with h
   subst h
   exact⟨_,by simp [binOp,Op.intDiv,hy],.tint _ _⟩
 case rem =>
  split at h
  ·cases h
  ·rename_i hy
   injection h with h
   subst h
   exact⟨_,by simp [binOp,Op.intDiv,hy],.tint _ _⟩
 all_goals subst h
 case add=>exact⟨_,by simp [binOp,Op.intArith],.tint _ _⟩
 case sub=>exact⟨_,by simp [binOp,Op.intArith],.tint _ _⟩
 case mul=>exact⟨_,by simp [binOp,Op.intArith],.tint _ _⟩
 case and=>exact⟨_,by simp [binOp,Op.intBits],.tint _ _⟩
 case or=>exact⟨_,by simp [binOp,Op.intBits],.tint _ _⟩
 case xor=>exact⟨_,by simp [binOp,Op.intBits],.tint _ _⟩
 case andNot=>exact⟨_,by simp [binOp,Op.intBits],.tint _ _⟩
 all_goals exact⟨_,by simp [binOp,Op.intCmp],.tbool _⟩
theorem a5A {op:BinOp} {k k':IntKind} {x y:Int} {r:T} (t:TypeId) (hop:op=.shl\/op=.shr) (h:a0F op k x y=some r) (w:World):∃ v,(binOp op t (.int k x) (.int k' y)).run P w=.ok v w/\PRep fx G w v (.t r):=by
 unfold a0F at h
 split at h
 ·cases h
 ·rename_i hy
  rcases hop with rfl|rfl
  ·simp only[g7G] at h
   subst h
   exact⟨_,by simp [binOp,Op.shift,hy],.tint _ _⟩
  ·simp only[g7G] at h
   subst h
   exact⟨_,by simp [binOp,Op.shift,hy],.tint _ _⟩
theorem a5B (a b:ByteArray):(a++b).data.toList=a.data.toList++b.data.toList:=by simp
theorem a5C {op:BinOp} {x y:ByteArray} {r:T} (t:TypeId) (h:a0G op x.data.toList y.data.toList=some r) (w:World):∃ v,(binOp op t (.string x) (.string y)).run P w=.ok v w/\PRep fx G w v (.t r):=by
 cases op <;> simp only[a0G,g7G,reduceCtorEq] at h
 case add =>
  split at h
  ·rename_i hb
   injection h with h
   subst h
   refine⟨.string (x++y),?_,.tstr (a5B x y)⟩
   have hb':x.size+y.size<=4611686018427387904:=by rw[Lib.size_eq,Lib.size_eq];exact hb
   have hmax:¬((x.size+y.size:Nat):Int) > IntKind.i64.max:=by rw[IntKind.max_i64];omega
   simp only[binOp,Op.stringOp]
   rw[if_neg hmax]
   rfl
  ·cases h
 all_goals subst h
 all_goals exact⟨_,by simp [binOp,Op.stringOp,ByteArray.toList_eq],.tbool _⟩
theorem a5D {op:BinOp} {v1 v2:Value} {x1 x2:PV} {r:T} (t:TypeId) (h1:PRep fx G w v1 x1) (h2:PRep fx G w v2 x2) (h:a0H op x1 x2=some r) (e1 e2:Operand) :
  ∃ v,(do eqGuard op t e1 e2 v1 v2;binOp op t v1 v2:Sem Value).run P w=.ok v w/\PRep fx G w v (.t r):=by
 unfold a0H at h
 split at h
 ·rename_i k x k' y
  have:=h1.int_inv
  have:=h2.int_inv
  subst v1 v2
  split at h
  ·obtain⟨v,e,hp⟩:=a5A (P:=P) (fx:=fx) (G:=G) (k':=k') t (.inl rfl) h w
   exact⟨v,by simp only[eqGuard_at_int,Sem.run_bind,Sem.run_pure,Result.andThen_ok,e],hp⟩
  ·obtain⟨v,e,hp⟩:=a5A (P:=P) (fx:=fx) (G:=G) (k':=k') t (.inr rfl) h w
   exact⟨v,by simp only[eqGuard_at_int,Sem.run_bind,Sem.run_pure,Result.andThen_ok,e],hp⟩
  ·split at h
   ·rename_i hk
    subst hk
    obtain⟨v,e,hp⟩:=a4Z (P:=P) (fx:=fx) (G:=G) t h w
    exact⟨v,by simp only[eqGuard_at_int,Sem.run_bind,Sem.run_pure,Result.andThen_ok,e],hp⟩
   ·cases h
 ·obtain⟨s1,rfl,e1⟩:=h1.str_inv
  obtain⟨s2,rfl,e2⟩:=h2.str_inv
  subst e1 e2
  obtain⟨v,e,hp⟩:=a5C (P:=P) (fx:=fx) (G:=G) t h w
  exact⟨v,by simp only[eqGuard_at_string,Sem.run_bind,Sem.run_pure,Result.andThen_ok,e],hp⟩
 ·cases h
theorem a5E (a b:ByteArray):(a == b)=(a.data.toList == b.data.toList):=by rw[beq_toListBytes,ByteArray.toList_eq,ByteArray.toList_eq]
theorem a5F {x y:T} {b:Bool} (h:eq1 0 x y=some b):∃ a c,x=.bool a/\y=.bool c/\b=(a == c):=by
 cases x <;> cases y <;> simp [eq1] at h
 exact⟨_,_,rfl,rfl,by rw[<-h]⟩
theorem a5G {x y:T} {b:Bool} (h:eq1 1 x y=some b):∃ k a c,x=.int k a/\y=.int k c/\b=(a == c):=by
 cases x <;> cases y <;> simp only[eq1,reduceCtorEq] at h
 split at h
 ·rename_i hk
  injection h with h
  subst hk
  exact⟨_,_,_,rfl,rfl,h.symm⟩
 ·cases h
theorem a5H {x y:T} {b:Bool} (h:eq1 2 x y=some b):∃ a c,x=.str a/\y=.str c/\b=(a == c):=by
 cases x <;> cases y <;> simp only[eq1,reduceCtorEq,g7G] at h
 exact⟨_,_,rfl,rfl,h.symm⟩
theorem a5I {k:Nat} {x y:T} {b:Bool} (h:eqs [k] [x] [y]=some b):eq1 k x y=some b:=by
 simp only[eqs] at h
 cases h1:eq1 k x y with
 |none=>rw[h1] at h;cases h
 |some a=>rw[h1] at h;simpa using h
def a5J (st:Nat->Nat->Prop) (w:World) (ag:Bool) (v:Value) (xs:List T):Prop :=
 if ag then ∃ cs:Array Value,v=.agg cs/\cs.size=xs.length/\∀ (i:Nat) (u:Value) (x:T),cs[i]?=some u->xs[i]?=some x->TRep st w u x
 else ∃ x,xs=[x]/\TRep st w v x
theorem a5K {k1 k2:List Nat} {x1 x2 y1 y2:List T} (h1:x1.length=k1.length) (h2:y1.length=k1.length):eqs (k1++k2) (x1++x2) (y1++y2)=(match eqs k1 x1 y1,eqs k2 x2 y2 with|some a,some b=>some (a&&b)|_,_=>none):=by
 induction k1 generalizing x1 y1 with
 |nil =>
  obtain rfl:=g5G h1
  obtain rfl:=g5G h2
  simp only[List.nil_append,eqs]
  cases eqs k2 x2 y2 <;> simp
 |cons k r ih =>
  cases x1 with
  |nil=>simp at h1
  |cons x xs=>cases y1 with
   |nil=>simp at h2
   |cons y ys =>
    simp only[List.cons_append,eqs]
    rw[ih (by simpa using h1) (by simpa using h2)]
    cases eq1 k x y <;> cases eqs r xs ys <;> cases eqs k2 x2 y2 <;> simp [Bool.and_assoc]
theorem a5L {ks:List Nat} {xs ys:List T} {b:Bool} (h:eqs ks xs ys=some b):xs.length=ks.length/\ys.length=ks.length:=by
 induction ks generalizing xs ys b with
 |nil=>cases xs <;> cases ys <;> simp [eqs] at h ⊢
 |cons k r ih =>
  cases xs with
  |nil=>cases ys <;> simp [eqs] at h
  |cons x xs=>cases ys with
   |nil=>simp [eqs] at h
   |cons y ys =>
    simp only[eqs] at h
    split at h
    ·rename_i h1 h2
     have:=ih h2
     simp [this]
    ·cases h
theorem a5M {t:TypeId} {ag:Bool} {cs:Array Value} {xs:List T} {off n:Nat} (hag:a1Z P t=some ag) (hsz:a2A P t=some n) (hl:cs.size=xs.length)
  (hr:∀ (i:Nat) (u:Value) (x:T),cs[i]?=some u->xs[i]?=some x->TRep G.st w u x) (hb:off+n<=xs.length) (hone:ag=false->n=1) :
  ∃ v,(part t cs off).run P w=.ok v w/\a5J G.st w ag v ((xs.drop off).take n):=by
 rw[a4V hag hsz]
 cases ag with
 |true =>
  refine⟨_,rfl,?_⟩
  simp only[a5J,if_true]
  refine⟨_,rfl,by simp;omega,λi u x hu hx=>?_⟩
  rw[g5U,g5L] at hx
  split at hx
  ·refine hr (off+i) u x ?_ hx
   rw[<-hu]
   simp [Array.getElem?_extract]
   omega
  ·cases hx
 |false =>
  obtain rfl:=hone rfl
  have hlt:off < cs.size:=by omega
  refine⟨cs[off],by simp [g4O hlt],?_⟩
  simp only[a5J,g4T,if_false]
  refine⟨xs[off]'(by omega),?_,hr off _ _ (g4O hlt) (g5M (by omega))⟩
  rw[List.drop_eq_getElem_cons (by omega)]
  rfl
theorem a5N {d:Nat} {t:TypeId} {ks:List Nat} (h:a2G P d t=some ks) (hag:a1Z P t=some false):ks.length=1:=by
 cases d with
 |zero=>cases h
 |succ d =>
  simp only[a2G] at h
  unfold a1Z at hag
  cases h2:P.underlying t with
  |none=>rw[h2] at hag;cases hag
  |some ds =>
   rw[h2] at hag h
   cases ds <;> simp at hag h <;> subst h <;> rfl
theorem a5O:∀ (d D:Nat) (t:TypeId) (ks:List Nat) (ag:Bool) (u v:Value) (xs ys:List T) (b:Bool),a2G P d t=some ks->d<=D->a1Z P t=some ag ->
  a5J G.st w ag u xs->a5J G.st w ag v ys->eqs ks xs ys=some b->(Op.equalIn D t u v).run P w=.ok b w:=by
 intro d
 induction d with
 |zero=>intro D t ks ag u v xs ys b h;cases h
 |succ d ih =>
  intro D t ks ag u v xs ys b h hD hag hu hv he
  obtain⟨D,rfl⟩:∃ E,D=E+1:=⟨D - 1,by omega⟩
  have hall:∀ (t':TypeId) (ks':List Nat) (off n:Nat) (ag':Bool) (cx cy:Array Value) (b':Bool),a2G P d t'=some ks'->a1Z P t'=some ag'->a2A P t'=some n->n=ks'.length ->
    cx.size=xs.length->cy.size=ys.length->(∀ (i:Nat) (u:Value) (x:T),cx[i]?=some u->xs[i]?=some x->TRep G.st w u x)->(∀ (i:Nat) (u:Value) (x:T),cy[i]?=some u->ys[i]?=some x->TRep G.st w u x) ->
    off+n<=xs.length->off+n<=ys.length->eqs ks' ((xs.drop off).take n) ((ys.drop off).take n)=some b' ->
    ∃ a1 a2,(part t' cx off).run P w=.ok a1 w/\(part t' cy off).run P w=.ok a2 w/\(Op.equalIn D t' a1 a2).run P w=.ok b' w:=by
   intro t' ks' off n ag' cx cy b' h1 h2 h3 h4 hx hy rx ry bx by_ heq
   have hone:ag'=false->n=1:=λe=>by subst e;rw[h4];exact a5N h1 h2
   obtain⟨a1,e1,f1⟩:=a5M (P:=P) h2 h3 hx rx bx hone
   obtain⟨a2,e2,f2⟩:=a5M (P:=P) h2 h3 hy ry by_ hone
   exact⟨a1,a2,e1,e2,ih D t' ks' ag' a1 a2 _ _ b' h1 (by omega) h2 f1 f2 heq⟩
  simp only[a2G] at h
  unfold a1Z at hag
  cases h2:P.underlying t with
  |none=>rw[h2] at hag;cases hag
  |some ds =>
  rw[h2] at hag h
  cases ds
  case bool =>
   simp only[g7G] at h hag
   subst h hag
   simp only[a5J,g4T,if_false] at hu hv
   obtain⟨x,rfl,hu⟩:=hu
   obtain⟨y,rfl,hv⟩:=hv
   obtain⟨p,q,rfl,rfl,rfl⟩:=a5F (a5I he)
   cases hu;cases hv
   simp [Op.equalIn,run_underlying h2]
  case int k0 =>
   simp only[g7G] at h hag
   subst h hag
   simp only[a5J,g4T,if_false] at hu hv
   obtain⟨x,rfl,hu⟩:=hu
   obtain⟨y,rfl,hv⟩:=hv
   obtain⟨k,p,q,rfl,rfl,rfl⟩:=a5G (a5I he)
   cases hu;cases hv
   simp [Op.equalIn,run_underlying h2]
  case string =>
   simp only[g7G] at h hag
   subst h hag
   simp only[a5J,g4T,if_false] at hu hv
   obtain⟨x,rfl,hu⟩:=hu
   obtain⟨y,rfl,hv⟩:=hv
   obtain⟨p,q,rfl,rfl,rfl⟩:=a5H (a5I he)
   cases hu;cases hv
   simp [Op.equalIn,run_underlying h2,a5E]
  case struct fs =>
   simp only[g7G] at hag
   subst hag
   simp only at h
   split at h
   ·cases h
   ·rename_i hst
    simp only[a5J,if_true] at hu hv
    obtain⟨cx,rfl,lx,rx⟩:=hu
    obtain⟨cy,rfl,ly,ry⟩:=hv
    have hfo:P.fieldsOf t=fs:=by simp [Program.fieldsOf,h2]
    rw[run_equalIn_struct w D t cx cy (by rw[hfo];exact h2) (by simpa using hst),hfo]
    have key:∀ (l:List Field) (n:Nat) (ks:List Nat) (b:Bool),a2F P (a2G P d) n l=some ks->eqs ks (xs.drop n) (ys.drop n)=some b->n<=xs.length->n<=ys.length->(Op.eqFields D cx cy l).run P w=.ok b w:=by
     intro l
     induction l with
     |nil =>
      intro n ks b hk he _ _
      simp only[a2F,g7G] at hk
      subst hk
      have hlen:=a5L he
      have e1:=g5G hlen.1
      have e2:=g5G hlen.2
      rw[e1,e2] at he
      simp only[eqs,g7G] at he
      subst he
      rfl
     |cons f r ihr =>
      intro n ks b hk he hnx hny
      simp only[a2F] at hk
      split at hk
      ·rename_i hcond
       obtain⟨hname,hoff⟩:=hcond
       split at hk
       ·rename_i ag' s ks' q1 q2 q3
        split at hk
        ·rename_i hs
         simp only[g7E] at hk
         obtain⟨ks2,hk2,rfl⟩:=hk
         have hlen:=a5L he
         simp only[g5W,List.length_drop] at hlen
         have ex:xs.drop n=(xs.drop n).take s++xs.drop (n+s):=by rw[<-g5E,g6P]
         have ey:ys.drop n=(ys.drop n).take s++ys.drop (n+s):=by rw[<-g5E,g6P]
         rw[ex,ey,a5K (by simp;omega) (by simp;omega)] at he
         split at he
         ·rename_i b1 b2 r1 r2
          injection he with he
          subst he
          obtain⟨a1,a2,p1,p2,p3⟩:=hall f.type ks' n s ag' cx cy b1 q3 q1 q2 hs lx ly rx ry (by omega) (by omega) r1
          have hr:=ihr (n+s) ks2 b2 hk2 r2 (by omega) (by omega)
          have hne : f.name ≠ "_" := by simpa using hname
          subst hoff
          simp only[Op.eqFields,if_pos hne,Sem.run_bind,p1,p2,p3,Result.andThen_ok]
          cases b1 with
          |true=>simpa using hr
          |false=>simp
         ·cases he
        ·cases hk
       ·cases hk
      ·cases hk
    exact key fs.toList 0 ks b h (by simpa using he) (g7B _) (g7B _)
  case array k e =>
   simp only[g7G] at hag
   subst hag
   simp only at h
   split at h
   ·rename_i ag' s ks' q1 q2 q3
    split at h
    ·rename_i hs
     simp only[g7G] at h
     subst h
     simp only[a5J,if_true] at hu hv
     obtain⟨cx,rfl,lx,rx⟩:=hu
     obtain⟨cy,rfl,ly,ry⟩:=hv
     have q2':=q2
     simp only[a2A,g7E] at q2'
     obtain⟨ii,hii,hsz⟩:=q2'
     have hco:P.cellsOf e=s:=by simp [Program.cellsOf,hii,hsz]
     rw[run_equalIn_array w D cx cy h2 hii,hco,List.range_eq_range']
     have key:∀ (m j:Nat) (b:Bool),eqs (List.replicate m ks').flatten (xs.drop (j * s)) (ys.drop (j * s))=some b->j * s<=xs.length->j * s<=ys.length->(Op.eqItems D e s cx cy (List.range' j m)).run P w=.ok b w:=by
      intro m
      induction m with
      |zero =>
       intro j b he _ _
       have hlen:=a5L he
       simp only[List.replicate_zero,g5I,g5Z] at hlen
       have e1:=g5G hlen.1
       have e2:=g5G hlen.2
       rw[e1,e2] at he
       simp only[List.replicate_zero,g5I,eqs,g7G] at he
       subst he
       rfl
      |succ m ihm =>
       intro j b he hnx hny
       have hlen:=a5L he
       rw[List.replicate_succ,g5H] at he
       simp only[List.replicate_succ,g5H,g5W,List.length_drop] at hlen
       have hjs:(j+1) * s=j * s+s:=by rw[g6Q,Nat.one_mul]
       have ex:xs.drop (j * s)=(xs.drop (j * s)).take s++xs.drop ((j+1) * s):=by rw[hjs,<-g5E,g6P]
       have ey:ys.drop (j * s)=(ys.drop (j * s)).take s++ys.drop ((j+1) * s):=by rw[hjs,<-g5E,g6P]
       rw[ex,ey,a5K (by simp;omega) (by simp;omega)] at he
       split at he
       ·rename_i b1 b2 r1 r2
        injection he with he
        subst he
        obtain⟨a1,a2,p1,p2,p3⟩:=hall e ks' (j * s) s ag' cx cy b1 q3 q1 q2 hs lx ly rx ry (by omega) (by omega) r1
        have hr:=ihm (j+1) b2 r2 (by omega) (by omega)
        simp only[List.range'_succ,Op.eqItems,Sem.run_bind,p1,p2,p3,Result.andThen_ok]
        cases b1 with
        |true=>simpa using hr
        |false=>simp
       ·cases he
     exact key k 0 b (by simpa using he) (by omega) (by omega)
    ·cases h
   ·cases h
  all_goals cases h
end Go.Pi

/- PI 7: comparison of values, nil, conversions, slices, indexes, fields. -/
namespace Go.Pi
variable {P:Program} {tb:Tb} {fx:List (Nat×Nat)} {gl:Nat->Option (List T)} {G:Gh} {w:World} {sg:Sg} {ow:Ow} {nt:Nat} {a:Act} {fr:List PV}
theorem a5P {ag:Bool} {v:Value} {x:T} (h:TRep G.st w v x):(ag=true->∃ xs,x=.agg xs)->a5J G.st w ag v (match ag,x with|true,.agg xs=>xs|_,x=>[x]):=by
 intro hx
 cases ag with
 |true =>
  obtain⟨xs,rfl⟩:=hx rfl
  cases h with|agg cs _ hl hr =>
  simp only[a5J,if_true]
  exact⟨cs,rfl,hl,hr⟩
 |false =>
  simp only[a5J,g4T,if_false]
  exact⟨x,rfl,h⟩
theorem a5Q {d D:Nat} {t:TypeId} {ag:Bool} {ks:List Nat} {u v:Value} {x y:PV} {b:Bool} (hl:a2G P d t=some ks) (hD:d<=D) (hag:a1Z P t=some ag) (hu:PRep fx G w u x) (hv:PRep fx G w v y)
  (h:eqT ag ks x y=some b):(Op.equalIn D t u v).run P w=.ok b w:=by
 unfold eqT at h
 split at h
 ·rename_i x y
  cases hu with|t hu =>
  cases hv with|t hv =>
  cases ag with
  |true =>
   simp only[if_true] at h
   split at h
   ·rename_i xs ys
    exact a5O d D t ks true u v xs ys b hl hD hag (a5P (ag:=true) hu λ_=>⟨xs,rfl⟩) (a5P (ag:=true) hv λ_=>⟨ys,rfl⟩) h
   ·cases h
  |false =>
   simp only[g4T,if_false] at h
   exact a5O d D t ks false u v [x] [y] b hl hD hag (by simp only[a5J,g4T,if_false];exact⟨x,rfl,hu⟩) (by simp only[a5J,g4T,if_false];exact⟨y,rfl,hv⟩) h
 ·cases h
theorem a5R {ks:List Nat} {x y:PV} {b:Bool} (h:eqT true ks x y=some b):∃ xs ys,x=.t (.agg xs)/\y=.t (.agg ys):=by
 unfold eqT at h
 split at h
 ·simp only[if_true] at h
  split at h
  ·exact⟨_,_,rfl,rfl⟩
  ·cases h
 ·cases h
theorem a5S {t:TypeId} {ks:List Nat} {ng ag:Bool} {op:BinOp} {u v:Value} {x y:PV} {b:Bool} (e1 e2:Operand) (hop:op=if ng then .neq else .eql) (hl:a2G P 20 t=some ks) (hag:a1Z P t=some ag)
  (hb:ag=false->ks=[0]) (hg:ag=true->P.eqGuardType P.depth t=false) (hu:PRep fx G w u x) (hv:PRep fx G w v y) (h:eqT ag ks x y=some b) :
  (do eqGuard op t e1 e2 u v;binOp op t u v:Sem Value).run P w=.ok (.bool (ng != b)) w:=by
 have he:=a5Q (P:=P) (D:=10000) hl (by omega) hag hu hv h
 cases ag with
 |true =>
  obtain⟨xs,ys,rfl,rfl⟩:=a5R h
  obtain⟨cx,rfl,_⟩:=hu.agg_inv
  obtain⟨cy,rfl,_⟩:=hv.agg_inv
  simp only[Sem.run_bind,run_eqGuard_agg w op t e1 e2 cx cy (hg rfl),Result.andThen_ok]
  subst hop
  cases ng with
  |true=>simp only[if_true];rw[run_neq_struct,he];simp
  |false=>simp only[g4T,if_false];rw[run_eql_struct,he];simp
 |false =>
  have hks:=hb rfl
  subst hks
  unfold eqT at h
  split at h
  ·rename_i x y
   simp only[g4T,if_false] at h
   obtain⟨p,q,rfl,rfl,rfl⟩:=a5F (a5I h)
   have:=hu.bool_inv
   have:=hv.bool_inv
   subst u v
   simp only[eqGuard_at_bool,Sem.run_bind,Sem.run_pure,Result.andThen_ok]
   subst hop
   cases ng with
   |true =>
    simp only[if_true,binOp,Op.equal,Op.maxDepth]
    simp only[Sem.run_bind,he,Result.andThen_ok,Sem.run_pure]
    cases p <;> cases q <;> rfl
   |false =>
    simp only[g4T,if_false,binOp,Op.equal,Op.maxDepth]
    simp only[Sem.run_bind,he,Result.andThen_ok,Sem.run_pure]
    cases p <;> cases q <;> rfl
  ·cases h
theorem a5T {t:TypeId} {ng:Bool} {op:BinOp} {u:Value} {x:PV} {b:Bool} {n:Nat} {c:Value} (e1:Operand) (hop:op=if ng then .neq else .eql) (hn:a2H P t=some n) (hy:a2I (.const c)=some n)
  (hu:PRep fx G w u x) (h:isNil n x=some b):(do eqGuard op t e1 (.const c) u c;binOp op t u c:Sem Value).run P w=.ok (.bool (ng != b)) w:=by
 have key:(eqGuard op t e1 (.const c) u c).run P w=.ok () w/\∀ D,(Op.equalIn (D+1) t u c).run P w=.ok b w/\(binOp op t u c=if ng then (do pure (.bool (!(<-Op.equal t u c)))) else (do pure (.bool (<-Op.equal t u c)))):=by
  unfold a2H at hn
  unfold a2I at hy
  unfold isNil at h
  split at hn <;> rename_i hund <;> simp only[g7G,reduceCtorEq] at hn <;> subst hn
  ·split at hy <;> rename_i hc <;> simp only[g7G,reduceCtorEq] at hy
   injection hc with hc
   subst hc
   split at h <;> simp only[g7G,reduceCtorEq] at h
   all_goals subst h
   all_goals rename_i hk
   all_goals first|cases hk|skip
   all_goals first
    |(cases hu with|t hu=>cases hu <;> exact⟨by rw[eqGuard_at_slice];rfl,λD=>⟨by simp [Op.equalIn,run_underlying hund],by subst hop;cases ng <;> rfl⟩⟩)
    |(cases hu <;> exact⟨by rw[eqGuard_at_slice];rfl,λD=>⟨by simp [Op.equalIn,run_underlying hund],by subst hop;cases ng <;> rfl⟩⟩)
  ·split at hy <;> rename_i hc <;> simp only[g7G,reduceCtorEq,Nat.reduceEqDiff] at hy
   injection hc with hc
   subst hc
   split at h <;> simp only[g7G,reduceCtorEq] at h
   all_goals subst h
   all_goals rename_i hk
   all_goals first|cases hk|skip
   all_goals first
    |(cases hu with|t hu=>cases hu <;> exact⟨by rw[eqGuard_at_pointer];rfl,λD=>⟨by simp [Op.equalIn,run_underlying hund],by subst hop;cases ng <;> rfl⟩⟩)
    |(cases hu <;> exact⟨by rw[eqGuard_at_pointer];rfl,λD=>⟨by simp [Op.equalIn,run_underlying hund],by subst hop;cases ng <;> rfl⟩⟩)
  ·split at hy <;> rename_i hc <;> simp only[g7G,reduceCtorEq,Nat.reduceEqDiff] at hy
   injection hc with hc
   subst hc
   split at h <;> simp only[g7G,reduceCtorEq] at h
   all_goals subst h
   all_goals rename_i hk
   all_goals first|cases hk|skip
   all_goals first
    |(cases hu with|t hu=>cases hu <;> first
      |exact⟨by rw[eqGuard_nil_constR];rfl,λD=>⟨by simp [Op.equalIn,run_underlying hund],by subst hop;cases ng <;> rfl⟩⟩
      |exact⟨by rw[eqGuard_at_iface];rfl,λD=>⟨by simp [Op.equalIn,run_underlying hund],by subst hop;cases ng <;> rfl⟩⟩)
    |cases hu
  ·split at hy <;> rename_i hc <;> simp only[g7G,reduceCtorEq,Nat.reduceEqDiff] at hy
   injection hc with hc
   subst hc
   split at h <;> simp only[g7G,reduceCtorEq] at h
   all_goals subst h
   all_goals rename_i hk
   all_goals first|cases hk|skip
   all_goals first
    |(cases hu with|t hu=>cases hu <;> exact⟨by rw[eqGuard_at_nilFunc];rfl,λD=>⟨by simp [Op.equalIn,run_underlying hund],by subst hop;cases ng <;> rfl⟩⟩)
    |(cases hu <;> exact⟨by rw[eqGuard_at_func];rfl,λD=>⟨by simp [Op.equalIn,run_underlying hund],by subst hop;cases ng <;> rfl⟩⟩)
 obtain⟨h1,h2⟩:=key
 obtain⟨h3,h4⟩:=h2 9999
 simp only[Sem.run_bind,h1,Result.andThen_ok,h4]
 cases ng with
 |true =>
  simp only[if_true,Op.equal,Op.maxDepth,Sem.run_bind,h3,Result.andThen_ok,Sem.run_pure]
  cases b <;> rfl
 |false =>
  simp only[g4T,if_false,Op.equal,Op.maxDepth,Sem.run_bind,h3,Result.andThen_ok,Sem.run_pure]
  cases b <;> rfl
end Go.Pi
