/- PI 2: what values and trees stand for in a world; what a step keeps. -/
import Derived.Test.YtdjcnfacjfnakaaGreatPi1
import Derived.Tactics
set_option linter.unusedSimpArgs false
set_option linter.unusedVariables false
namespace Go.Pi
inductive TRep (st:Nat->Nat->Prop) (w:World):Value->T->Prop where
 |bool (b:Bool):TRep st w (.bool b) (.bool b)
 |int (k:IntKind) (n:Int):TRep st w (.int k n) (.int k n)
 |str (s:ByteArray):TRep st w (.string s) (.str s.data.toList)
 |nsl:TRep st w (.slice none 0 0) (.sl true [])
 |sl (ad:Addr) (cap sz:Nat) (es:List (List T)) (vs:Nat->Nat->Value) (hcap:es.length<=cap) (hsp:es≠[]->ad.spot=none)
   (hsz:∀ e,e∈es->e.length=sz) (ho:∀ e,e∈es->∀ x,x∈e->x.isAgg=false)
   (hc:∀ (i j:Nat) (e:List T) (x:T),es[i]?=some e->e[j]?=some x->w.cell? ⟨ad.block,ad.off+(i * sz+j),none⟩=some (vs i j)/\st ad.block (ad.off+(i * sz+j)))
   (hr:∀ (i j:Nat) (e:List T) (x:T),es[i]?=some e->e[j]?=some x->TRep st w (vs i j) x) :
   TRep st w (.slice (some ad) es.length cap) (.sl false es)
 |agg (cs:Array Value) (xs:List T) (hl:cs.size=xs.length) (h:∀ (i:Nat) (v:Value) (x:T),cs[i]?=some v->xs[i]?=some x->TRep st w v x):TRep st w (.agg cs) (.agg xs)
 |nptr:TRep st w (.pointer none) .nptr
 |nif:TRep st w .nilIface .nif
 |ifx (t:TypeId) (v:Value):TRep st w (.iface t v) .ifx
 |nfn:TRep st w .nilFunc .nfn
 |nmp:TRep st w (.map none) .nmp
structure Gh where
 mu:List Nat
 tk:List (Nat×Nat×Nat×Nat)
 fr:List Nat
 st:Nat->Nat->Prop
 bs:Nat
inductive PRep (fx:List (Nat×Nat)) (G:Gh) (w:World):Value->PV->Prop where
 |t {v:Value} {x:T} (h:TRep G.st w v x):PRep fx G w v (.t x)
 |agg (cs:Array Value) (xs:List PV) (hl:cs.size=xs.length) (h:∀ (i:Nat) (v:Value) (x:PV),cs[i]?=some v->xs[i]?=some x->PRep fx G w v x):PRep fx G w (.agg cs) (.agg xs)
 |tup (cs:Array Value) (xs:List PV) (hl:cs.size=xs.length) (h:∀ (i:Nat) (v:Value) (x:PV),cs[i]?=some v->xs[i]?=some x->PRep fx G w v x):PRep fx G w (.tuple cs) (.tup xs)
 |lp (id off b:Nat) (h:G.mu[id]?=some b):PRep fx G w (.pointer (some ⟨b,off,none⟩)) (.lp id off)
 |ls (id off len sz cap b:Nat) (ad:Addr) (h:G.mu[id]?=some b) (hcap:len<=cap) (ha:len=0\/ad=⟨b,off,none⟩):PRep fx G w (.slice (some ad) len cap) (.ls id off len sz)
 |ip (cs:List T) (off b o:Nat) (vs:Nat->Value) (h:∀ (j:Nat) (x:T),cs[j]?=some x->w.cell? ⟨b,o+j,none⟩=some (vs j)/\G.st b (o+j)/\TRep G.st w (vs j) x) :
   PRep fx G w (.pointer (some ⟨b,o+off,none⟩)) (.ip cs off)
 |gp (g off:Nat):PRep fx G w (.pointer (some ⟨g,off,none⟩)) (.gp g off)
 |cp (ad:Addr) (es:List (List T)) (h:TRep G.st w (.slice (some ad) es.length es.length) (.sl false es)):PRep fx G w (.slice (some ad) es.length es.length) (.cp es)
 |lit (b:Nat) (es:List (List T)) (h:TRep G.st w (.slice (some ⟨b,0,none⟩) es.length es.length) (.sl false es)) (hb:G.bs<=b) (hmu:∀ i:Nat,¬G.mu[i]?=some b)
   (htk:∀ (k:Nat) (x:Nat×Nat×Nat),¬G.tk[k]?=some (b,x)) (hh:∃ c t z,w.heap[b]?=some (.cells c t z)):PRep fx G w (.slice (some ⟨b,0,none⟩) es.length es.length) (.lit es)
 |own (k sz n:Nat) (ad:Addr) (cap:Nat) (es:List (List T)) (h:TRep G.st w (.slice (some ad) es.length cap) (.sl false es)) (hk:G.fr[k]?=some n) (hn:es.length<=n)
   (hlive:n=es.length->∃ b o,G.tk[k]?=some (b,o,sz,cap)/\ad=⟨b,0,none⟩/\∀ e,e∈es->e.length=sz):PRep fx G w (.slice (some ad) es.length cap) (.own k sz es)
 |fn (k f:Nat) (caps:Array Value) (xs:List PV) (hf:(k,f)∈fx) (hl:caps.size=xs.length) (h:∀ (i:Nat) (v:Value) (x:PV),caps[i]?=some v->xs[i]?=some x->PRep fx G w v x) :
   PRep fx G w (.func (.func f) #[] caps) (.fn k xs)
 |mp (id b:Nat) (h:G.mu[id]?=some b):PRep fx G w (.map (some b)) (.mp id)
 |bf (id len sz cap b:Nat) (h:G.mu[id]?=some b) (hcap:len<=cap) (hc:∃ (c:Array Value) (t:TypeId) (z:Nat×Nat),w.heap[b]?=some (.cells c t z)/\cap * sz<=c.size):PRep fx G w (.slice (some ⟨b,0,none⟩) len cap) (.bf id len sz)
def a1N (fx:List (Nat×Nat)) (G:Gh) (w:World) (vs:Array Value) (xs:List PV):Prop :=
 vs.size=xs.length/\∀ (i:Nat) (v:Value) (x:PV),vs[i]?=some v->xs[i]?=some x->PRep fx G w v x
def a1O (st:Nat->Nat->Prop) (w:World) (es:Array MapEntry) (cs:List PV):Prop :=
 es.size=cs.length/\∀ (j:Nat) (e:MapEntry) (x:PV),es[j]?=some e->cs[j]?=some x->∃ k v,x=.tup [.t k,.t v]/\TRep st w e.key k/\TRep st w e.val v
def Tz (o t n sz size:Nat) (z:Nat×Nat):Prop :=
 (o=0/\∀ j,j < size->¬(z.1<=j/\j < z.2))\/(o=t+1/\(z.1=z.2\/z.2<=n * sz))
theorem Tz.free {o t n sz size:Nat} {z:Nat×Nat} (h:Tz o t n sz size z):∀ j,n * sz<=j->j < size->¬(z.1<=j/\j < z.2):=by
 intro j h1 h2 ⟨h3,h4⟩
 rcases h with⟨_,h⟩|⟨_,h|h⟩
 ·exact h j h2 ⟨h3,h4⟩
 ·omega
 ·omega
theorem Tz.mono {o t n m sz size:Nat} {z:Nat×Nat} (h:Tz o t n sz size z) (hm:n<=m):Tz o t m sz size z:=by
 rcases h with h|⟨h1,h|h⟩
 ·exact .inl h
 ·exact .inr ⟨h1,.inl h⟩
 ·exact .inr ⟨h1,.inr (g6V h (g6Y _ hm))⟩
structure Inv (fx:List (Nat×Nat)) (gl:Nat->Option (List T)) (G:Gh) (w:World) (sg:Sg) (ow:Ow):Prop where
 fr:G.fr=ow
 mul:G.mu.length=sg.length
 muinj:∀ (i j b:Nat),G.mu[i]?=some b->G.mu[j]?=some b->i=j\/sg[i]?=some (false,[])\/sg[j]?=some (false,[])
 blk:∀ (i b:Nat) (cs:List PV),G.mu[i]?=some b->sg[i]?=some (false,cs) ->
  ∃ (c:Array Value) (t:TypeId) (z:Nat×Nat),w.heap[b]?=some (.cells c t z)/\cs.length<=c.size/\(∀ (j:Nat) (v:Value) (x:PV),c[j]?=some v->cs[j]?=some x->PRep fx G w v x) /\
   (∀ o,o < c.size->¬(z.1<=o/\o < z.2))/\(cs≠[]->∀ o,¬G.st b o)
 mps:∀ (i b:Nat) (cs:List PV),G.mu[i]?=some b->sg[i]?=some (true,cs) ->
  ∃ (es:Array MapEntry) (k:Nat),w.heap[b]?=some (.map es k)/\a1O G.st w es cs/\∀ o,¬G.st b o
 tkl:G.tk.length=ow.length
 tok:∀ (k b o sz cap n:Nat),G.tk[k]?=some (b,o,sz,cap)->ow[k]?=some n->0 < sz/\n<=cap /\
  ∃ (c:Array Value) (t:TypeId) (z:Nat×Nat),w.heap[b]?=some (.cells c t z)/\cap * sz<=c.size/\Tz o t n sz c.size z/\∀ j,n * sz<=j->¬G.st b j
 tkmu:∀ (k b:Nat) (x:Nat×Nat×Nat) (i:Nat),G.tk[k]?=some (b,x)->¬G.mu[i]?=some b
 tkinj:∀ (k k' b:Nat) (x y:Nat×Nat×Nat),G.tk[k]?=some (b,x)->G.tk[k']?=some (b,y)->k=k'
 stlt:∀ b o,G.st b o->b < w.heap.size
 glob:∀ (g:Nat) (ts:List T) (j:Nat) (x:T),gl g=some ts->ts[j]?=some x->∃ v,w.cell? ⟨g,j,none⟩=some v/\TRep G.st w v x/\G.st g j
 bsz:G.bs<=w.heap.size
structure Ext (G:Gh) (w:World) (G':Gh) (w':World):Prop where
 mu:∃ r,G'.mu=G.mu++r/\∀ b,b∈r->w.heap.size<=b\/∃ i:Nat,G.mu[i]?=some b
 frl:∀ (k n:Nat),G.fr[k]?=some n->∃ n',G'.fr[k]?=some n'/\n<=n'/\(n'=n->G'.tk[k]?=G.tk[k]?)
 tkb:∀ (k b:Nat) (x:Nat×Nat×Nat),G'.tk[k]?=some (b,x)->(∃ y,G.tk[k]?=some (b,y))\/w.heap.size<=b
 st:∀ b o,G.st b o->G'.st b o
 stn:∀ b o,G'.st b o->G.st b o\/w.heap.size<=b\/(∃ (k:Nat) (x:Nat×Nat×Nat),G.tk[k]?=some (b,x))\/∃ i:Nat,G.mu[i]?=some b
 cell:∀ b o,G.st b o->w'.cell? ⟨b,o,none⟩=w.cell? ⟨b,o,none⟩
 keep:∀ b,b < w.heap.size->(∀ i:Nat,¬G.mu[i]?=some b)->(∀ (k:Nat) (x:Nat×Nat×Nat),¬G.tk[k]?=some (b,x)) ->
  w'.heap[b]?=w.heap[b]?\/(G.bs<=b/\∃ c t z z',w.heap[b]?=some (.cells c t z)/\w'.heap[b]?=some (.cells c t z'))
 bs:G'.bs=G.bs
 size:w.heap.size<=w'.heap.size
 os:w'.os=w.os
 tape:w'.tape=w.tape
 output:w'.output=w.output
 csz:∀ (b:Nat) (c:Array Value) (t:TypeId) (z:Nat×Nat),w.heap[b]?=some (.cells c t z)->∃ (c':Array Value) (z':Nat×Nat),w'.heap[b]?=some (.cells c' t z')/\c'.size=c.size
theorem Ext.refl (G:Gh) (w:World):Ext G w G w :=
 ⟨⟨[],by simp⟩,λk n h=>⟨n,h,g6U _,λ_=>rfl⟩,λk b x h=>.inl ⟨x,h⟩,λ_ _ h=>h,λ_ _ h=>.inl h,λ_ _ _=>rfl,λ_ _ _ _=>.inl rfl,rfl,g6U _,rfl,rfl,rfl,λb c t z h=>⟨c,z,h,rfl⟩⟩
theorem Ext.mu_at {G G':Gh} {w w':World} (h:Ext G w G' w') {i b:Nat} (hi:G.mu[i]?=some b):G'.mu[i]?=some b:=by
 obtain⟨r,hr,_⟩:=h.mu
 rw[hr]
 have hlt:i < G.mu.length:=(g5O.1 hi).1
 rw[g5J hlt];exact hi
theorem Ext.mu_new {G G':Gh} {w w':World} (h:Ext G w G' w') {i b:Nat} (hi:G'.mu[i]?=some b):(∃ j:Nat,G.mu[j]?=some b)\/w.heap.size<=b:=by
 obtain⟨r,hr,hn⟩:=h.mu
 rw[hr] at hi
 rcases g6X i G.mu.length with hlt|hge
 ·rw[g5J hlt] at hi;exact .inl ⟨i,hi⟩
 ·rw[g5K hge] at hi;exact(hn b (g6K hi)).symm
theorem Ext.trans {G G1 G2:Gh} {w w1 w2:World} (h:Ext G w G1 w1) (h':Ext G1 w1 G2 w2):Ext G w G2 w2:=by
 refine⟨?_,?_,?_,λb o hs=>h'.st b o (h.st b o hs),?_,λb o hs=>(h'.cell b o (h.st b o hs)).trans (h.cell b o hs),?_,h'.bs.trans h.bs,g6V h.size h'.size,h'.os.trans h.os,h'.tape.trans h.tape,h'.output.trans h.output,?_⟩
 ·obtain⟨r,hr,hn⟩:=h.mu
  obtain⟨r',hr',hn'⟩:=h'.mu
  refine⟨r++r',by rw[hr',hr,g5B],λb hb=>?_⟩
  rcases g6G.1 hb with hb|hb
  ·exact hn b hb
  ·rcases hn' b hb with h1|⟨i,hi⟩
   ·exact .inl (g6V h.size h1)
   ·rcases h.mu_new hi with h1|h1
    ·exact .inr h1
    ·exact .inl h1
 ·intro k n hk
  obtain⟨n1,h1,hle,ht⟩:=h.frl k n hk
  obtain⟨n2,h2,hle2,ht2⟩:=h'.frl k n1 h1
  refine⟨n2,h2,g6V hle hle2,λhe=>?_⟩
  rw[ht2 (by omega),ht (by omega)]
 ·intro k b x hk
  rcases h'.tkb k b x hk with⟨y,hy⟩|hge
  ·rcases h.tkb k b y hy with hz|hge
   ·exact .inl hz
   ·exact .inr hge
  ·exact .inr (g6V h.size hge)
 ·intro b o hs
  rcases h'.stn b o hs with hs|hge|⟨k,x,hk⟩|⟨i,hi⟩
  ·exact h.stn b o hs
  ·exact .inr (.inl (g6V h.size hge))
  ·rcases h.tkb k b x hk with⟨y,hy⟩|hge
   ·exact .inr (.inr (.inl ⟨k,y,hy⟩))
   ·exact .inr (.inl hge)
  ·rcases h.mu_new hi with hi|hge
   ·exact .inr (.inr (.inr hi))
   ·exact .inr (.inl hge)
 ·intro b hb hmu htk
  have h1:=h.keep b hb hmu htk
  have h2:=h'.keep b (g6W hb h.size) (λi hi=>by
   rcases h.mu_new hi with⟨j,hi⟩|hge
   ·exact hmu j hi
   ·omega) (λk x hk=>by
   rcases h.tkb k b x hk with⟨y,hy⟩|hge
   ·exact htk k y hy
   ·omega)
  rw[h.bs] at h2
  rcases h1 with h1|⟨hbs,c,t,z,z',e1,e2⟩
  ·rcases h2 with h2|⟨hbs,c,t,z,z',e1,e2⟩
   ·exact .inl (h2.trans h1)
   ·exact .inr ⟨hbs,c,t,z,z',h1 ▸ e1,e2⟩
  ·rcases h2 with h2|⟨_,c',t',y,y',e3,e4⟩
   ·exact .inr ⟨hbs,c,t,z,z',e1,h2.trans e2⟩
   ·rw[e2] at e3
    injection e3 with e3
    injection e3 with ec et
    subst ec et
    exact .inr ⟨hbs,c,t,z,y',e1,e4⟩
 ·intro b c t z hb
  obtain⟨c1,z1,h1,h2⟩:=h.csz b c t z hb
  obtain⟨c2,z2,h3,h4⟩:=h'.csz b c1 t z1 h1
  exact⟨c2,z2,h3,h4.trans h2⟩
theorem TRep.mono {st st':Nat->Nat->Prop} {w w':World} (hst:∀ b o,st b o->st' b o) (hc:∀ b o,st b o->w'.cell? ⟨b,o,none⟩=w.cell? ⟨b,o,none⟩) {v:Value} {x:T}
  (h:TRep st w v x):TRep st' w' v x:=by
 induction h with
 |bool b=>exact .bool b
 |int k n=>exact .int k n
 |str s=>exact .str s
 |nsl=>exact .nsl
 |sl ad cap sz es vs hcap hsp hsz ho hcell _ ih =>
  exact .sl ad cap sz es vs hcap hsp hsz ho (λi j e x hi hj=>⟨(hc _ _ (hcell i j e x hi hj).2).trans (hcell i j e x hi hj).1,hst _ _ (hcell i j e x hi hj).2⟩) ih
 |agg cs xs hl _ ih=>exact .agg cs xs hl ih
 |nptr=>exact .nptr
 |nif=>exact .nif
 |ifx t v=>exact .ifx t v
 |nfn=>exact .nfn
 |nmp=>exact .nmp
theorem Ext.trep {G G':Gh} {w w':World} (h:Ext G w G' w') {v:Value} {x:T} (ht:TRep G.st w v x):TRep G'.st w' v x:=ht.mono h.st h.cell
theorem Ext.prep {fx:List (Nat×Nat)} {G G':Gh} {w w':World} (h:Ext G w G' w') {v:Value} {x:PV} (hp:PRep fx G w v x):PRep fx G' w' v x:=by
 induction hp with
 |t ht=>exact .t (h.trep ht)
 |agg cs xs hl _ ih=>exact .agg cs xs hl ih
 |tup cs xs hl _ ih=>exact .tup cs xs hl ih
 |lp id off b hb=>exact .lp id off b (h.mu_at hb)
 |ls id off len sz cap b ad hb hcap ha=>exact .ls id off len sz cap b ad (h.mu_at hb) hcap ha
 |ip cs off b o vs hc=>exact .ip cs off b o vs λj x hj=>⟨(h.cell _ _ (hc j x hj).2.1).trans (hc j x hj).1,h.st _ _ (hc j x hj).2.1,h.trep (hc j x hj).2.2⟩
 |gp g off=>exact .gp g off
 |cp ad es ht=>exact .cp ad es (h.trep ht)
 |lit b es ht hb hmu htk hh =>
  have hlt:b < w.heap.size:=by
   obtain⟨c,t,z,he⟩:=hh
   exact(g4P.1 he).1
  refine .lit b es (h.trep ht) (by rw[h.bs];exact hb) (λi hi=>?_) (λk x hk=>?_) ?_
  ·rcases h.mu_new hi with⟨j,hi⟩|hge
   ·exact hmu j hi
   ·omega
  ·rcases h.tkb k b x hk with⟨y,hy⟩|hge
   ·exact htk k y hy
   ·omega
  ·rcases h.keep b hlt hmu htk with he|⟨_,c,t,z,z',_,he⟩
   ·rw[he];exact hh
   ·exact⟨c,t,z',he⟩
 |own k sz n ad cap es ht hk hn hlive =>
  obtain⟨n',hk',hle,hsame⟩:=h.frl k n hk
  refine .own k sz n' ad cap es (h.trep ht) hk' (by omega) λhe=>?_
  have hnn:n'=n:=by omega
  rw[hsame hnn]
  exact hlive (by omega)
 |fn k f caps xs hf hl _ ih=>exact .fn k f caps xs hf hl ih
 |mp id b hb=>exact .mp id b (h.mu_at hb)
 |bf id len sz cap b hb hcap hc =>
  obtain⟨c,t,z,h1,h2⟩:=hc
  obtain⟨c',z',h3,h4⟩:=h.csz b c t z h1
  exact .bf id len sz cap b (h.mu_at hb) hcap ⟨c',t,z',h3,by omega⟩
theorem Ext.mrep {G G':Gh} {w w':World} (h:Ext G w G' w') {es:Array MapEntry} {cs:List PV} (hm:a1O G.st w es cs):a1O G'.st w' es cs :=
 ⟨hm.1,λj e x he hx=>by
  obtain⟨k,v,h1,h2,h3⟩:=hm.2 j e x he hx
  exact⟨k,v,h1,h.trep h2,h.trep h3⟩⟩
theorem a1P (fr:List PV) (k j:Nat) (v:PV):a0A (a0B fr k v) j=if j=k then v else a0A fr j:=by
 induction fr generalizing k j with
 |nil =>
  induction k generalizing j with
  |zero=>cases j <;> simp [a0B,a0A]
  |succ k ih=>cases j with
   |zero=>simp [a0B,a0A]
   |succ j=>simp only[a0B,a0A,ih,Nat.add_right_cancel_iff];
 |cons x r ih =>
  cases k with
  |zero=>cases j <;> simp [a0B,a0A]
  |succ k=>cases j with
   |zero=>simp [a0B,a0A]
   |succ j=>simp only[a0B,a0A,ih,Nat.add_right_cancel_iff]
theorem a1Q (fr:List PV) (k j:Nat) (v:PV) (h:j≠k):a0A (a0B fr k v) j=a0A fr j:=by rw[a1P,if_neg h]
theorem a1R (fr:List PV) (k:Nat):a0A fr k=fr.getD k und:=by
 induction fr generalizing k with
 |nil=>simp [a0A]
 |cons x r ih=>cases k with
  |zero=>simp [a0A]
  |succ k=>simp [a0A,ih]
def FRep (fx:List (Nat×Nat)) (G:Gh) (w:World) (nt:Nat) (a:Act) (fr:List PV):Prop :=
 a.defers=[]/\a.tmps.size=nt/\∀ k,k < nt->PRep fx G w (a.tmps.getD k undef) (a0A fr k)
theorem Ext.frep {fx:List (Nat×Nat)} {G G':Gh} {w w':World} (h:Ext G w G' w') {nt:Nat} {a:Act} {fr:List PV} (hp:FRep fx G w nt a fr):FRep fx G' w' nt a fr :=
 ⟨hp.1,hp.2.1,λk hk=>h.prep (hp.2.2 k hk)⟩
theorem FRep.put {fx:List (Nat×Nat)} {G:Gh} {w:World} {nt:Nat} {a:Act} {fr:List PV} (h:FRep fx G w nt a fr) {d:Option Nat} (hd:∀ k,d=some k->k < nt) {v:Value} {x:PV}
  (hv:PRep fx G w v x):FRep fx G w nt (a.put d v) (Pi.put fr d x):=by
 obtain⟨h1,h2,h3⟩:=h
 cases d with
 |none=>exact⟨h1,h2,h3⟩
 |some d =>
  refine⟨by simpa [Act.put] using h1,by simpa [Act.put] using h2,λk hk=>?_⟩
  simp only[Act.put,Pi.put]
  rw[a1P]
  have hdn:=hd d rfl
  by_cases hkd:k=d
  ·subst hkd
   rw[if_pos rfl]
   simpa [Array.getD,h2,hk] using hv
  ·rw[if_neg hkd]
   have:=h3 k hk
   have hne:d≠k:=λe=>hkd e.symm
   simpa [Array.getD,h2,hk,Array.getElem_setIfInBounds_ne,hne] using this
theorem a1S (fx:List (Nat×Nat)) (G:Gh) (w:World):PRep fx G w undef und:=.tup #[] [] rfl (λi v x hi=>by simp at hi)
end Go.Pi
