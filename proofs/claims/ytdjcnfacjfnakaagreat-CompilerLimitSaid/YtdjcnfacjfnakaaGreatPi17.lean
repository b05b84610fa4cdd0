/- PI 15: make; one operation of the model is one of the small language. Program independent. -/
import Derived.Below
import Derived.Test.YtdjcnfacjfnakaaGreatPi14
import Derived.MapKept
set_option linter.unusedSimpArgs false
set_option linter.unusedVariables false
namespace Go.Pi
variable {P:Program} {tb:Tb} {fx:List (Nat×Nat)} {gl:Nat→Option (List T)} {G:Gh} {w:World} {sg:Sg} {ow:Ow} {nt:Nat} {a:Act} {fr:List PV}
theorem a9D (hi:Inv fx gl G w sg ow) {t el:TypeId} {sz by_:Nat} {z:List T} {l c:Int} (ht:P.underlying t=some (.slice el)) (hs:a2H P el=some sz) (hby:a2I P el=some by_) (hz:a2K P el=some z) (h0:0≤l) (hlc:l≤c) (hroom:a0N c.toNat by_=true)
  (hzl:z.length=sz) (hsz:0 < sz):∃ v w',(Instr.makeSlice t (.int .i64 l) (.int .i64 c)).run P w=.ok v w' ∧
   (l=0→∃ G',Ext G w G' w'∧Inv fx gl G' w' sg (ow++[0])∧PRep fx G' w' v (.own ow.length sz [])) ∧
   (∃ G',Ext G w G' w'∧Inv fx gl G' w' (sg++[(false,(List.replicate c.toNat z).flatten.map .t)]) ow∧PRep fx G' w' v (.ls sg.length 0 l.toNat sz)):=by
 obtain⟨inf,zv,hinf,hzz,hzsz,hzr⟩:=a7T hz
 have hbytes:inf.bytes=by_:=by simp only[a2I,hinf,g5F,g5G] at hby;exact hby
 have hsize:inf.size=sz:=by simp only[a2H,hinf,g5F,g5G] at hs;exact hs
 obtain⟨r1,r2⟩:=a8N hroom
 have hb:(inf.bytes:Int) * c≤281474976710656:=by
  have h1:((c.toNat * by_:Nat):Int)≤140737488355328:=by omega
  rw[Int.natCast_mul,Int.toNat_of_nonneg (by omega)] at h1
  rw[hbytes,Int.mul_comm]
  omega
 have hrun:=run_make (P:=P) w t el inf zv ht hinf hzz .i64 .i64 l c h0 hlc hb (by omega)
 rw[hsize] at hrun
 refine⟨_,_,hrun,fun hl0=>?_,?_⟩
 ·subst hl0
  obtain⟨hE,hI⟩:=hi.newOwn (madeCells zv.cells (c.toNat * sz)) el (0,0) 0 sz c.toNat 0 hsz (by omega) (by rw[size_madeCells];exact g4U _) (.inl ⟨rfl,fun j _=>by simp⟩)
  have htk:G.tk.length=ow.length:=hi.tkl
  have hfr:G.fr.length=ow.length:=by rw[hi.fr]
  refine⟨_,hE,hI,?_⟩
  refine .own ow.length sz 0 ⟨w.heap.size,0,none⟩ c.toNat [] ?_ (by simp only;rw[←hfr];exact a4G _ _) (by simp) (fun _=>⟨w.heap.size,0,?_,rfl,by simp⟩)
  ·exact .sl _ _ sz [] (fun _ _=>undef) (by simp) (by simp) (by simp) (by simp) (by simp) (by simp)
  ·simp only
   rw[←htk]
   exact a4G _ _
 ·have hz':CRep fx G w (madeCells zv.cells (c.toNat * sz)) ((List.replicate c.toNat z).flatten.map .t):=a8C hzl hsz hzsz hzr
  obtain⟨hE,hI⟩:=hi.newLocal (madeCells zv.cells (c.toNat * sz)) el _ (Nat.le_of_eq hz'.1.symm) hz'.2
  refine⟨_,hE,hI,?_⟩
  refine .ls sg.length 0 l.toNat sz c.toNat w.heap.size _ ?_ (by omega) (.inr rfl)
  simp only
  rw[←hi.mul]
  exact a4G _ _
theorem a9E (z:List T) (sz:Nat) (hz:z.length=sz):∀ (c i j:Nat),i < c→j < sz→(List.replicate c z).flatten[i * sz+j]?=z[j]?:=by
 intro c
 induction c with
 |zero=>intro i j h;omega
 |succ c ih =>
  intro i j hi hj
  rw[List.replicate_succ,g3G]
  cases i with
  |zero=>rw[Nat.zero_mul,g5A,g3I (by omega)]
  |succ i =>
   rw[Nat.succ_mul,g3J (by omega),hz]
   have:i * sz+sz+j - sz=i * sz+j:=by omega
   rw[this]
   exact ih i j (by omega) hj
theorem a9F (hi:Inv fx gl G w sg ow) {t el:TypeId} {sz by_:Nat} {z:List T} {l c:Int} (ht:P.underlying t=some (.slice el)) (hs:a2H P el=some sz) (hby:a2I P el=some by_) (hz:a2K P el=some z) (h0:0≤l) (hlc:l≤c) (hroom:a0N c.toNat by_=true)
  (hzl:z.length=sz) (hsz:0 < sz) (hag:z.any T.isAgg=false):∃ v w' G',(Instr.makeSlice t (.int .i64 l) (.int .i64 c)).run P w=.ok v w'∧Ext G w G' w'∧Inv fx gl G' w' sg ow∧PRep fx G' w' v (.t (.sl false (List.replicate l.toNat z))):=by
 obtain⟨inf,zv,hinf,hzz,hzsz,hzr⟩:=a7T hz
 have hbytes:inf.bytes=by_:=by simp only[a2I,hinf,g5F,g5G] at hby;exact hby
 have hsize:inf.size=sz:=by simp only[a2H,hinf,g5F,g5G] at hs;exact hs
 obtain⟨r1,r2⟩:=a8N hroom
 have hb:(inf.bytes:Int) * c≤281474976710656:=by
  have h1:((c.toNat * by_:Nat):Int)≤140737488355328:=by omega
  rw[Int.natCast_mul,Int.toNat_of_nonneg (by omega)] at h1
  rw[hbytes,Int.mul_comm]
  omega
 have hrun:=run_make (P:=P) w t el inf zv ht hinf hzz .i64 .i64 l c h0 hlc hb (by omega)
 rw[hsize] at hrun
 have hz':CRep fx G w (madeCells zv.cells (c.toNat * sz)) ((List.replicate c.toNat z).flatten.map .t):=a8C hzl hsz hzsz hzr
 obtain⟨hE,hI⟩:=hi.newTree (madeCells zv.cells (c.toNat * sz)) el (0,0) (c.toNat * sz)
 refine⟨_,_,_,hrun,hE,hI,.t ?_⟩
 have hlen:(List.replicate l.toNat z).length=l.toNat:=List.length_replicate
 have hat:∀ (i j:Nat) (e:List T) (x:T),(List.replicate l.toNat z)[i]?=some e→e[j]?=some x→i * sz+j < c.toNat * sz∧((List.replicate c.toNat z).flatten.map PV.t)[i * sz+j]?=some (.t x):=by
  intro i j e x he hx
  have hi1:i < l.toNat:=by rw[←hlen];exact(g3N.1 he).1
  have hez:e=z:=List.eq_of_mem_replicate (g4K he)
  subst hez
  have hj:j < sz:=by rw[←hzl];exact(g3N.1 hx).1
  refine⟨?_,?_⟩
  ·have h1:(i+1) * sz≤c.toNat * sz:=g4Y _ (by omega)
   rw[Nat.succ_mul] at h1
   omega
  ·rw[g3O,a9E e sz hzl c.toNat i j (by omega) hj,hx];rfl
 have key:=TRep.sl (st:=fun b o=>G.st b o∨(b=w.heap.size∧o < c.toNat * sz)) (w:=w.alloc (.cells (madeCells zv.cells (c.toNat * sz)) el (0,0))) ⟨w.heap.size,0,none⟩ c.toNat sz (List.replicate l.toNat z)
  (fun i j=>(madeCells zv.cells (c.toNat * sz))[i * sz+j]!) (by rw[hlen];omega) (fun _=>rfl) (fun e he=>by rw[List.eq_of_mem_replicate he];exact hzl)
  (fun e he x hx=>by
   rw[List.eq_of_mem_replicate he] at hx
   cases hq:x.isAgg with
   |false=>rfl
   |true=>rw[g2Z.2 ⟨x,hx,hq⟩] at hag;cases hag)
  (fun i j e x he hx=>by
   obtain⟨h1,h2⟩:=hat i j e x he hx
   have hlt:i * sz+j < (madeCells zv.cells (c.toNat * sz)).size:=by rw[size_madeCells];exact h1
   refine⟨?_,.inr ⟨rfl,by simpa using h1⟩⟩
   rw[cell_of_row _ w.heap.size (0+(i * sz+j)) _ el (0,0) (heap_alloc_new w _),g5A,g2M hlt,getElem!_pos (madeCells zv.cells (c.toNat * sz)) (i * sz+j) hlt])
  (fun i j e x he hx=>by
   obtain⟨h1,h2⟩:=hat i j e x he hx
   have hlt:i * sz+j < (madeCells zv.cells (c.toNat * sz)).size:=by rw[size_madeCells];exact h1
   rw[getElem!_pos (madeCells zv.cells (c.toNat * sz)) (i * sz+j) hlt]
   exact hE.trep (hz'.2 _ _ _ (g2M hlt) h2).t_inv)
 rw[hlen] at key
 exact key
def a9G (P:Program) (tb:Tb) (gl:Nat→Option (List T)) (C:Cal):Prop :=
 ∀ (f g:Nat) (args:List PV) (sg:Sg) (ow:Ow) (r:PV) (sg':Sg) (ow':Ow),C f args sg ow=some (r,sg',ow')→(f,g)∈tb.fx→∀ (G:Gh) (w:World) (vs:Array Value),Inv tb.fx gl G w sg ow→a1T tb.fx G w vs args →
  Calls P g vs w fun e w'=>∃ v G',e=.returned v∧Ext G w G' w'∧Inv tb.fx gl G' w' sg' ow'∧PRep tb.fx G' w' v r
def XxOk (P:Program) (fx:List (Nat×Nat)) (k g:Nat):Prop :=
 ∀ (ts:List T) (r:PV) (vs:Array Value) (G:Gh) (w:World) (gl:Nat→Option (List T)),(∀ (g:Nat) (ts:List T) (j:Nat) (x:T),gl g=some ts→ts[j]?=some x→∃ v,w.cell? ⟨g,j,none⟩=some v∧TRep G.st w v x∧G.st g j)→a0P gl k ts=some r→vs.size=ts.length →
  (∀ (i:Nat) (v:Value) (x:T),vs[i]?=some v→ts[i]?=some x→TRep G.st w v x) →
  (∃ v,(callFunc g vs).run P w=.ok (.value v) w∧PRep fx G w v r) ∨
  ((callFunc g vs).run P w=.ok (.enter g vs) w∧Calls P g vs w fun e w'=>∃ v st',e=.returned v∧RowKit.Below w.heap.size w w'∧(∀ b o,G.st b o→st' b o)∧(∀ b o,st' b o→G.st b o∨(w.heap.size≤b∧b < w'.heap.size))∧PRep fx { G with st:=st' } w' v r)
structure BuOk (P:Program) (u:Bu):Prop where
 hc : ∃ fn c, P.funcs[u.c]? = some fn ∧ fn.body = some c ∧ (fn.name == "runtime.NumGoroutine") = false
 hf : ∃ fn c, P.funcs[u.f]? = some fn ∧ fn.body = some c ∧ (fn.name == "runtime.NumGoroutine") = false
 cck:∀ (b:Nat) (w:World) (c:Array Value) (z:Nat×Nat),w.heap[b]?=some (.cells c u.b z)→c.size=2→¬(z.1≤0∧0 < z.2)→(c[0]?=some (.pointer none)∨c[0]?=some (.pointer (some ⟨b,0,none⟩))) →
  Calls P u.c #[.pointer (some ⟨b,0,none⟩)] w fun e w'=>e=.returned (.tuple #[])∧(w'=w∨w'=w.setCell ⟨b,0,none⟩ (.pointer (some ⟨b,0,none⟩)))
 nil:∀ (b:Nat) (w:World) (c:Array Value) (t:TypeId) (z:Nat×Nat),w.heap[b]?=some (.cells c t z)→c[1]?=some (.slice none 0 0) →
  Calls P u.f #[.pointer (some ⟨b,0,none⟩)] w fun e w'=>e=.returned (.string ⟨#[]⟩)∧w'.heap=w.heap∧w'.os=w.os∧w'.tape=w.tape∧w'.output=w.output
 str:∀ (b g cap:Nat) (w:World) (c cur:Array Value) (t:TypeId) (z y:Nat×Nat) (l:List UInt8),w.heap[b]?=some (.cells c t z)→c[1]?=some (.slice (some ⟨g,0,none⟩) l.length cap)→w.heap[g]?=some (.cells cur u.e y)→l≠[]→l.length≤cap→l.length≤cur.size→l.length≤4611686018427387904 →
  (∀ (j:Nat) (x:UInt8),l[j]?=some x→w.cell? ⟨g,j,none⟩=some (.int .u8 x.toNat)) →
  Calls P u.f #[.pointer (some ⟨b,0,none⟩)] w fun e w'=>e=.returned (.string ⟨l.toArray⟩)∧w'.heap=(w.freeze ⟨g,0,none⟩ l.length).heap∧w'.os=w.os∧w'.tape=w.tape∧w'.output=w.output
structure TbOk (P:Program) (tb:Tb):Prop where
 fx : ∀ k g, (k, g) ∈ tb.fx → ∃ fn c, P.funcs[g]? = some fn ∧ fn.body = some c ∧ (fn.name == "runtime.NumGoroutine") = false
 xx:∀ k g,(k,g)∈tb.xx→XxOk P tb.fx k g
 bu:∀ u,tb.bu=some u→BuOk P u
theorem a9H {g : Nat} {fn : Func} {c : Code} (hf : P.funcs[g]? = some fn) (hb : fn.body = some c) (hn : (fn.name == "runtime.NumGoroutine") = false) (vs : Array Value) (w : World) : (callFunc g vs).run P w = .ok (.enter g vs) w := by
 have hn' : ¬ fn.name = "runtime.NumGoroutine" := by simpa using hn
 simp [callFunc,hf,hb,hn']
theorem a9I {C:Cal} (hC:a9G P tb gl C) (hi:Inv tb.fx gl G w sg ow) {f g:Nat} (hfg:(f,g)∈tb.fx) {ts:List T} {r:PV} {sg':Sg} {ow':Ow} {vs:Array Value} (h:C f (ts.map .t) [] []=some (r,sg',ow')) (hl:vs.size=ts.length)
  (hr:∀ (i:Nat) (v:Value) (x:T),vs[i]?=some v→ts[i]?=some x→TRep G.st w v x) :
  Calls P g vs w fun e w'=>∃ v Gc,e=.returned v∧Ext ⟨[],[],[],G.st,w.heap.size⟩ w Gc w'∧Inv tb.fx gl Gc w' sg' ow'∧PRep tb.fx Gc w' v r:=by
 have hI:Inv tb.fx gl ⟨[],[],[],G.st,w.heap.size⟩ w [] []:=⟨rfl,rfl,by simp,by simp,by simp,rfl,by simp,by simp,by simp,hi.stlt,hi.glob,g4U _⟩
 refine hC f g _ [] [] r sg' ow' h hfg ⟨[],[],[],G.st,w.heap.size⟩ w vs hI ⟨by simpa using hl,fun i v x hv hx=>?_⟩
 simp only[g3O,g5E] at hx
 obtain⟨q,hq,rfl⟩:=hx
 exact .t (hr i v q hv hq)
theorem a9J (hi:Inv fx gl G w sg ow) {Gc:Gh} {w':World} {sg':Sg} {ow':Ow} (hE:Ext ⟨[],[],[],G.st,w.heap.size⟩ w Gc w') (hI:Inv fx gl Gc w' sg' ow') :
  let st':=fun b o=>Gc.st b o∨(b < w'.heap.size∧∃ i:Nat,Gc.mu[i]?=some b)
  (Ext G w { G with st:=st' } w'∧Inv fx gl { G with st:=st' } w' sg ow) ∧
  ∀ (k b o sz cap n:Nat),Gc.tk[k]?=some (b,o,sz,cap)→ow'[k]?=some n→Ext G w ⟨G.mu,G.tk++[(b,o,sz,cap)],G.fr++[n],st',G.bs⟩ w'∧Inv fx gl ⟨G.mu,G.tk++[(b,o,sz,cap)],G.fr++[n],st',G.bs⟩ w' sg (ow++[n]):=by
 intro st'
 have hkeep:∀ b,b < w.heap.size→w'.heap[b]?=w.heap[b]?:=by
  intro b hb
  rcases hE.keep b hb (by simp) (by simp) with h|⟨h,_⟩
  ·exact h
  ·simp only at h;omega
 have hmunew:∀ (i b:Nat),Gc.mu[i]?=some b→w.heap.size≤b:=fun i b h=>by
  rcases hE.mu_new h with⟨_,h⟩|h
  ·simp at h
  ·exact h
 have hstn:∀ b o,st' b o→G.st b o∨w.heap.size≤b:=by
  intro b o hs
  rcases hs with hs|⟨_,i,hi'⟩
  ·rcases hE.stn b o hs with h|h|⟨k,x,h⟩|⟨i,h⟩
   ·exact .inl h
   ·exact .inr h
   ·simp at h
   ·simp at h
  ·exact .inr (hmunew i b hi')
 have hst:∀ b o,G.st b o→st' b o:=fun b o h=>.inl (hE.st b o h)
 have hcell:∀ b o,G.st b o→w'.cell? ⟨b,o,none⟩=w.cell? ⟨b,o,none⟩:=hE.cell
 have hstlt:∀ b o,st' b o→b < w'.heap.size:=fun b o h=>by
  rcases h with h|⟨h,_⟩
  ·exact hI.stlt b o h
  ·exact h
 have hext0:Ext G w { G with st:=st' } w':=⟨⟨[],by simp⟩,fun k n h=>⟨n,h,g4U _,fun _=>rfl⟩,fun k b x h=>.inl ⟨x,h⟩,hst,fun b o h=>by
  rcases hstn b o h with h|h
  ·exact .inl h
  ·exact .inr (.inl h),hcell,fun b hb _ _=>.inl (hkeep b hb),rfl,hE.size,hE.os,hE.tape,hE.output,fun b c t z hb=>⟨c,z,by rw[hkeep b (a4E hb)];exact hb,rfl⟩⟩
 have hblk:∀ (G1:Gh),G1.mu=G.mu→G1.st=st'→Ext G w G1 w'→∀ (i b:Nat) (cs:List PV),G1.mu[i]?=some b→sg[i]?=some (false,cs) →
  ∃ (c:Array Value) (t:TypeId) (z:Nat×Nat),w'.heap[b]?=some (.cells c t z)∧cs.length≤c.size∧(∀ (j:Nat) (v:Value) (x:PV),c[j]?=some v→cs[j]?=some x→PRep fx G1 w' v x) ∧
   (∀ o,o < c.size→¬(z.1≤o∧o < z.2))∧(cs≠[]→∀ o,¬G1.st b o):=by
  intro G1 hmu hst1 hx i b cs hi' hs
  rw[hmu] at hi'
  obtain⟨c,t,z,e1,e2,e3,e4⟩:=hi.blk i b cs hi' hs
  have hlt:=a4E e1
  refine⟨c,t,z,by rw[hkeep b hlt];exact e1,e2,fun j v x hv hx'=>hx.prep (e3 j v x hv hx'),e4.1,fun qq o hs=>?_⟩
  rw[hst1] at hs
  rcases hstn b o hs with h|h
  ·exact e4.2 qq o h
  ·omega
 have hmps:∀ (G1:Gh),G1.mu=G.mu→G1.st=st'→Ext G w G1 w'→∀ (i b:Nat) (cs:List PV),G1.mu[i]?=some b→sg[i]?=some (true,cs) →
  ∃ (es:Array MapEntry) (k:Nat),w'.heap[b]?=some (.map es k)∧a1U G1.st w' es cs∧∀ o,¬G1.st b o:=by
  intro G1 hmu hst1 hx i b cs hi' hs
  rw[hmu] at hi'
  obtain⟨es,k,e1,e2,e3⟩:=hi.mps i b cs hi' hs
  have hlt:=a4E e1
  refine⟨es,k,by rw[hkeep b hlt];exact e1,hx.mrep e2,fun o hs=>?_⟩
  rw[hst1] at hs
  rcases hstn b o hs with h|h
  ·exact e3 o h
  ·omega
 have htok:∀ (k b o sz cap n:Nat),G.tk[k]?=some (b,o,sz,cap)→ow[k]?=some n→0 < sz∧n≤cap ∧
  ∃ (c:Array Value) (t:TypeId) (z:Nat×Nat),w'.heap[b]?=some (.cells c t z)∧cap * sz≤c.size∧Tz o t n sz c.size z∧∀ j,n * sz≤j→¬st' b j:=by
  intro k b o sz cap n hk hn
  obtain⟨h1,h2,c,t,z,e1,e2,e3,e4⟩:=hi.tok k b o sz cap n hk hn
  have hlt:=a4E e1
  refine⟨h1,h2,c,t,z,by rw[hkeep b hlt];exact e1,e2,e3,fun j hj hs=>?_⟩
  rcases hstn b j hs with h|h
  ·exact e4 j hj h
  ·omega
 have hglob:∀ (G1:Gh),G1.st=st'→Ext G w G1 w'→∀ (g:Nat) (ts:List T) (j:Nat) (x:T),gl g=some ts→ts[j]?=some x→∃ v,w'.cell? ⟨g,j,none⟩=some v∧TRep G1.st w' v x∧G1.st g j:=by
  intro G1 hst1 hx g ts j x hg hx'
  obtain⟨v,e1,e2,e3⟩:=hi.glob g ts j x hg hx'
  exact⟨v,(hcell _ _ e3).trans e1,hx.trep e2,by rw[hst1];exact hst _ _ e3⟩
 refine⟨⟨hext0,⟨hi.fr,hi.mul,hi.muinj,hblk _ rfl rfl hext0,hmps _ rfl rfl hext0,hi.tkl,htok,hi.tkmu,hi.tkinj,hstlt,hglob _ rfl hext0,g4V hi.bsz hE.size⟩⟩,fun k b o sz cap n hk hn=>?_⟩
 have hbnew:w.heap.size≤b:=by
  rcases hE.tkb k b _ hk with⟨y,h⟩|h
  ·simp at h
  ·exact h
 have hkl:G.tk.length=G.fr.length:=by rw[hi.tkl,hi.fr]
 have hext1:Ext G w ⟨G.mu,G.tk++[(b,o,sz,cap)],G.fr++[n],st',G.bs⟩ w':=⟨⟨[],by simp⟩,fun k m hk=>⟨m,a4H _ _ _ _ hk,g4U _,fun _=>by
   have hlt:k < G.tk.length:=by rw[hkl];exact(g3N.1 hk).1
   exact g3I hlt⟩,fun k b' x hk=>by
   rcases a4F _ _ _ _ hk with hk|⟨_,hk⟩
   ·exact .inl ⟨x,hk⟩
   ·injection hk with hk _
    exact .inr (by omega),hst,fun b o h=>by
  rcases hstn b o h with h|h
  ·exact .inl h
  ·exact .inr (.inl h),hcell,fun b hb _ _=>.inl (hkeep b hb),rfl,hE.size,hE.os,hE.tape,hE.output,fun b c t z hb=>⟨c,z,by rw[hkeep b (a4E hb)];exact hb,rfl⟩⟩
 refine⟨hext1,⟨by simp [hi.fr],hi.mul,hi.muinj,hblk _ rfl rfl hext1,hmps _ rfl rfl hext1,by simp [hi.tkl],?_,?_,?_,hstlt,hglob _ rfl hext1,g4V hi.bsz hE.size⟩⟩
 ·intro k' b' o' sz' cap' n' hk' hn'
  rcases a4F _ _ _ _ hk' with h1|⟨h1,h2⟩ <;> rcases a4F _ _ _ _ hn' with h3|⟨h3,h4⟩
  ·exact htok k' b' o' sz' cap' n' h1 h3
  ·have:=(g3N.1 h1).1
   rw[hi.tkl] at this;omega
  ·have:=(g3N.1 h3).1
   rw[hi.tkl] at h1;omega
  ·injection h2 with q1 q2
   injection q2 with q2 q3
   injection q3 with q3 q4
   subst q1 q2 q3 q4 h4
   obtain⟨p1,p2,c,t,z,e1,e2,e3,e4⟩:=hI.tok k b' o' sz' cap' n' hk hn
   refine⟨p1,p2,c,t,z,e1,e2,e3,fun j hj hs=>?_⟩
   rcases hs with hs|⟨_,i,hi'⟩
   ·exact e4 j hj hs
   ·exact hI.tkmu k b' _ i hk hi'
 ·intro k' b' x i hk' hi'
  rcases a4F _ _ _ _ hk' with h1|⟨_,h2⟩
  ·exact hi.tkmu k' b' x i h1 hi'
  ·injection h2 with h2 _
   have:=hi.mu_lt hi'
   omega
 ·intro k1 k2 b' x y h1 h2
  rcases a4F _ _ _ _ h1 with p1|⟨p1,p2⟩ <;> rcases a4F _ _ _ _ h2 with p3|⟨p3,p4⟩
  ·exact hi.tkinj k1 k2 b' x y p1 p3
  ·injection p4 with p4 _
   have:=hi.tk_lt p1;omega
  ·injection p2 with p2 _
   have:=hi.tk_lt p3;omega
  ·omega
theorem a9K (hi:Inv fx gl G w sg ow) {w':World} {st':Nat→Nat→Prop} (hb:RowKit.Below w.heap.size w w') (h1:∀ b o,G.st b o→st' b o) (h2:∀ b o,st' b o→G.st b o∨(w.heap.size≤b∧b < w'.heap.size)) {v:Value} {r:PV} (hp:PRep fx { G with st:=st' } w' v r) :
  ∃ G',Ext G w G' w'∧Inv fx gl G' w' sg ow∧PRep fx G' w' v r:=by
 have hcell:∀ b o,G.st b o→w'.cell? ⟨b,o,none⟩=w.cell? ⟨b,o,none⟩:=fun b o h=>hb.cell (hi.stlt b o h)
 have hE:Ext ⟨[],[],[],G.st,w.heap.size⟩ w ⟨[],[],[],st',w.heap.size⟩ w':=⟨⟨[],by simp⟩,by simp,by simp,h1,fun b o h=>by
  rcases h2 b o h with h|h
  ·exact .inl h
  ·exact .inr (.inl h.1),hcell,fun b hb' _ _=>.inl (hb.block b hb'),rfl,hb.size,hb.os,hb.tape,hb.output,fun b c t z hb'=>⟨c,z,by rw[hb.block b (a4E hb')];exact hb',rfl⟩⟩
 have hstlt:∀ b o,st' b o→b < w'.heap.size:=fun b o h=>by
  rcases h2 b o h with h|h
  ·exact g4W (hi.stlt b o h) hb.size
  ·exact h.2
 have hI:Inv fx gl ⟨[],[],[],st',w.heap.size⟩ w' [] []:=⟨rfl,rfl,by simp,by simp,by simp,rfl,by simp,by simp,by simp,hstlt,fun g ts j x hg hx=>by
  obtain⟨v,e1,e2,e3⟩:=hi.glob g ts j x hg hx
  exact⟨v,(hcell _ _ e3).trans e1,hE.trep e2,h1 _ _ e3⟩,hb.size⟩
 obtain⟨⟨q1,q2⟩,_⟩:=a9J hi hE hI
 refine⟨_,q1,q2,?_⟩
 have hx:Ext { G with st:=st' } w' { G with st:=fun b o=>st' b o∨(b < w'.heap.size∧∃ i:Nat,([]:List Nat)[i]?=some b) } w':=⟨⟨[],by simp⟩,fun k n h=>⟨n,h,g4U _,fun _=>rfl⟩,fun k b x h=>.inl ⟨x,h⟩,fun b o h=>.inl h,fun b o h=>by
  rcases h with h|⟨_,i,h⟩
  ·exact .inl h
  ·simp at h,fun _ _ _=>rfl,fun _ _ _ _=>.inl rfl,rfl,g4U _,rfl,rfl,rfl,fun b c t z h=>⟨c,z,h,rfl⟩⟩
 exact hx.prep hp
end Go.Pi

/- PI 16: one operation. Program independent. -/
namespace Go.Pi
variable {P:Program} {tb:Tb} {gl:Nat→Option (List T)} {G:Gh} {w:World} {nt:Nat} {a:Act} {K:Act→World→Prop} {Q:Exit→Act→World→Prop} {o:Oper}
theorem a9L {val:Value} {w':World} (h:(execOp a.eval o).run P w=.ok (.value val) w') (hK:K (a.put o.dst val) w'):o.wp P a w K Q:=by
 unfold Oper.wp
 rw[h]
 exact hK
theorem a9M {w':World} (h:(execOp a.eval o).run P w=.ok .skip w') (hK:K (a.put o.dst undef) w'):o.wp P a w K Q:=by
 unfold Oper.wp
 rw[h]
 exact hK
theorem a9N {f:FuncId} {args:Array Value} {w':World} {R:Value→World→Prop} (h:(execOp a.eval o).run P w=.ok (.enter f args) w') (hc:Calls P f args w' fun e w''=>∃ v,e=.returned v∧R v w'') (hK:∀ v w'',R v w''→K (a.put o.dst v) w''):o.wp P a w K Q:=by
 unfold Oper.wp
 rw[h]
 refine hc.mono ?_
 rintro e w'' ⟨v,rfl,hr⟩
 exact hK v w'' hr
theorem a9O {x:Option Operand} {y:Option Opd} {fr:List PV} (h:a2E tb nt x=some y) (hf:FRep tb.fx G w nt a fr):a6V tb.fx G w (x.map a.eval) (y.map (Opd.ev fr)):=by
 cases x with
 |none=>simp [a2E] at h;subst h;trivial
 |some x =>
  simp only[a2E,g5E] at h
  obtain⟨z,hz,rfl⟩:=h
  exact a4V hz hf
theorem a9P {sg:Sg} {ow:Ow} (hi:Inv tb.fx gl G w sg ow) {t:TypeId} {n:Nat} {va vv:Value} {xa xv:PV} {sg':Sg} (hs:a2H P t=some n) (ha:PRep tb.fx G w va xa) (hv:PRep tb.fx G w vv xv) (h:storeP sg n xv xa=some sg') :
  ∃ w',(Instr.storeAt t va vv).run P w=.ok () w'∧Ext G w G w'∧Inv tb.fx gl G w' sg' ow:=by
 unfold storeP at h
 split at h
 ·rename_i id off
  split at h
  ·rename_i cs hsg
   split at h
   ·rename_i hc
    injection h with h
    subst h
    obtain⟨c1,c2,c3⟩:=hc
    cases ha with|lp _ _ b hb =>
    obtain⟨c,t',z,e1,e2,e3,e4⟩:=hi.blk id b cs hb hsg
    obtain⟨hz,_⟩:=e4
    obtain⟨d1,d2⟩:=a5A hv
    have hone:∀ u∈vv.cells.toList,u.oneCell'=true:=by
     intro u hu
     obtain⟨j,hj⟩:=g3P hu
     have hj':vv.cells[j]?=some u:=by simpa using hj
     have hlt:j < (cellsP xv).length:=by rw[←d1];exact(g2N.1 hj').1
     have hy:=g3L hlt
     have hp:=d2 j u _ hj' hy
     have ho:=g2Y.1 c3 _ (g4K hy)
     generalize (cellsP xv)[j]=y at hp ho
     cases hp with
     |t ht=>cases ht <;> first|rfl|cases ho
     |agg=>cases ho
     |tup=>cases ho
     |_=>rfl
    have hlen:vv.cells.toList.length=n:=by rw[g2Q,d1,c1]
    have hst:=a4Q (P:=P) vv.cells.toList w b off 0 c t' z e1 (by omega) (fun j _=>hz j) hone
    rw[g4R] at hst
    have hsz:vv.cells.size=n:=by rw[d1,c1]
    have hb':off+vv.cells.toList.length≤c.size:=by omega
    have hgetc:∀ (j:Nat) (u:Value) (y:PV),(a4I c off vv.cells.toList)[j]?=some u→(setRange cs off (cellsP xv))[j]?=some y→PRep tb.fx G w u y:=by
     intro j u y hu hy
     rw[a4K c off vv.cells.toList hb' j] at hu
     rw[a7P cs off (cellsP xv) (by omega) j] at hy
     rw[hlen] at hu
     rw[c1] at hy
     split at hu
     ·rename_i hj
      rw[if_pos hj] at hy
      exact d2 (j - off) u y (by simpa using hu) hy
     ·rename_i hj
      rw[if_neg hj] at hy
      exact e3 j u y hu hy
    by_cases hne:cs=[]
    ·subst hne
     have hn0:n=0:=by simp at c2;omega
     have hnil:vv.cells.toList=[]:=g3F (by omega)
     have hnil2:cellsP xv=[]:=g3F (by omega)
     refine⟨w,?_,.refl _ _,?_⟩
     ·simp only[Instr.storeAt,Sem.run_bind,a6L,Result.andThen_ok,storeVar,a5I hs,hsz,ne_eq,not_true,if_false,hnil]
      rfl
     ·rw[hnil2]
      exact hi.giveUp hsg
    obtain⟨hE,hI⟩:=hi.storeLocal hb hsg hne e1 (a4I c off vv.cells.toList) (setRange cs off (cellsP xv)) (a4J _ _ _) (by rw[a7O,a4J];exact e2) hgetc
    refine⟨_,?_,hE,hI⟩
    simp only[Instr.storeAt,Sem.run_bind,a6L,Result.andThen_ok,storeVar,a5I hs,hsz,ne_eq,not_true,if_false,hst]
   ·cases h
  ·cases h
 ·cases h
theorem a9Q {Gc:Gh} {w':World} {sg':Sg} {ow':Ow} (hI:Inv tb.fx gl Gc w' sg' ow') {u:Value} {id off len sz:Nat} {y:T} (hu:PRep tb.fx Gc w' u (.ls id off len sz)) (h:(a0K sg' sz id off len sz).map (.sl false)=some y):TRep (fun b o=>Gc.st b o∨(b < w'.heap.size∧∃ i:Nat,Gc.mu[i]?=some b)) w' u y:=by
 ·simp only[g5E] at h
  obtain⟨es,hes,rfl⟩:=h
  have hes':=hes
  unfold a0K at hes'
  simp only[if_true] at hes'
  split at hes'
  ·rename_i cs hsg
   split at hes'
   ·rename_i hbd
    split at hes'
    case h_2=>cases hes'
    rename_i ts hts
    split at hes'
    ·cases hes'
    rename_i hagg
    injection hes' with hes'
    subst hes'
    have hcs:=a5B hts
    have hno:∀ x∈ts,x.isAgg=false:=fun x hx=>by
     cases hq:x.isAgg with
     |false=>rfl
     |true=>exact absurd (g2Z.2 ⟨x,hx,hq⟩) hagg
    cases hu with|ls _ _ _ _ cap b ad hmu hcap ha =>
    obtain⟨c,t,z,e1,e2,e3,_⟩:=hI.blk id b cs hmu hsg
    have hlt:=a4E e1
    have htl:ts.length=len * sz:=by
     have:=congrArg List.length hcs
     simp at this
     omega
    have hcl:(a0C sz len ts).length=len:=a7F _ _ _
    rcases ha with rfl|rfl
    ·have hnil:a0C sz 0 ts=[]:=rfl
     rw[hnil]
     exact .sl ad cap sz [] (fun _ _=>undef) (by simp) (by simp) (by simp) (by simp) (by simp) (by simp)
    ·rw[show Value.slice (some ⟨b,off,none⟩) len cap=Value.slice (some ⟨b,off,none⟩) (a0C sz len ts).length cap by rw[hcl]]
     refine TRep.ofRow (sz:=sz) (vs:=(c.toList.drop off).take (len * sz)) (a7G sz len ts (by omega)) (a7H hno) (by omega) (a7I (by simp [htl];omega) htl fun i v y hv hy=>?_) (fun j v hv=>?_) (fun j _=>.inr ⟨hlt,id,hmu⟩)
     ·rw[g3T,g3K] at hv
      split at hv
      ·rename_i hlt'
       have hy':cs[off+i]?=some (.t y):=by
        have:=congrArg (fun l:List PV=>l[i]?) hcs
        simp only[g3T,g3K,if_pos hlt',g3O,hy,g5F] at this
        exact this
       exact(e3 (off+i) v (.t y) (by simpa using hv) hy').t_inv.mono (fun _ _ h=>.inl h) (fun _ _ _=>rfl)
      ·cases hv
     ·rw[g3T,g3K] at hv
      split at hv
      ·rw[cell_of_row w' b (off+j) c t z e1]
       simpa using hv
      ·cases hv
   ·cases hes'
  ·cases hes'
theorem a9R {Gc:Gh} {w':World} {sg':Sg} {ow':Ow} (hI:Inv tb.fx gl Gc w' sg' ow') {u:Value} {x:PV} {y:T} (hu:PRep tb.fx Gc w' u x) (h:ret1 sg' x=some y):TRep (fun b o=>Gc.st b o∨(b < w'.heap.size∧∃ i:Nat,Gc.mu[i]?=some b)) w' u y:=by
 unfold ret1 at h
 split at h
 ·exact a9Q hI hu h
 ·exact a9Q hI hu.bf_ls h
 ·exact(a8D hu h).mono (fun _ _ h=>.inl h) (fun _ _ _=>rfl)
theorem a9S {Gc:Gh} {w':World} {sg':Sg} {ow':Ow} (hI:Inv tb.fx gl Gc w' sg' ow') {u:Value} {x:PV} {y:T} (hu:PRep tb.fx Gc w' u x) (h:retSl sg' x=some y):TRep (fun b o=>Gc.st b o∨(b < w'.heap.size∧∃ i:Nat,Gc.mu[i]?=some b)) w' u y:=by
 unfold retSl at h
 split at h
 ·exact a9Q hI hu h
 ·exact a9Q hI hu.bf_ls h
 ·simp only[g5E] at h
  obtain⟨ts,hts,rfl⟩:=h
  obtain⟨cs,rfl,hl,hr⟩:=hu.aggP_inv
  obtain⟨h1,h2⟩:=a4S _ _ _ hts
  refine .agg cs ts (by omega) fun i v y hv hy=>?_
  have hlt:i < cs.size:=(g2N.1 hv).1
  have hx:=g3L (l:=_) (i:=i) (show i < _ by rw[←hl];exact hlt)
  exact a9R hI (hr i v _ hv hx) (h2 i _ y hx hy)
 ·exact(a8F hu h).mono (fun _ _ h=>.inl h) (fun _ _ _=>rfl)
end Go.Pi

/- PI 17: one operation of the model is one of the small language. Program independent. -/
namespace Go.Pi
variable {P:Program} {tb:Tb} {gl:Nat→Option (List T)} {G:Gh} {w:World} {nt:Nat} {a:Act} {K:Act→World→Prop} {Q:Exit→Act→World→Prop} {o:Oper} {C:Cal} {dr:Bool} {s:S} {v:PV} {sg':Sg} {ow':Ow}
theorem a9T {val:Value} {r:PV} (hi:Inv tb.fx gl G w s.sg s.ow) (hr:(execOp a.eval o).run P w=.ok (.value val) w) (hp:PRep tb.fx G w val r) (he:(r,s.sg,s.ow)=(v,sg',ow'))
  (hK:∀ val G' w',Ext G w G' w'→Inv tb.fx gl G' w' sg' ow'→PRep tb.fx G' w' val v→K (a.put o.dst val) w'):o.wp P a w K Q:=by
 injection he with e1 e2
 injection e2 with e2 e3
 subst e1 e2 e3
 exact a9L hr (hK val G w (.refl _ _) hi hp)
theorem a9U {x:Sem Value} {val:Value} {w':World} (h:x.run P w=.ok val w'):(do pure (Next.value (←x)):Sem Next).run P w=.ok (.value val) w':=by
 simp only[Sem.run_bind,h,Result.andThen_ok,Sem.run_pure]
theorem a9V {x:Sem Unit} {w':World} (h:x.run P w=.ok () w'):(do x;pure Next.skip:Sem Next).run P w=.ok .skip w':=by
 simp only[Sem.run_bind,h,Result.andThen_ok,Sem.run_pure]
theorem a9W (hi:Inv tb.fx gl G w s.sg s.ow) (hf:FRep tb.fx G w nt a s.fr) {op:BinOp} {t yt:TypeId} {x y:Operand} (hop:o.op=.binOp op t x y yt) {q:O} (hq:a2Q P tb nt op t x y=some q) (hstep:a1L C gl dr q s=some (v,sg',ow'))
  (hK:∀ val G' w',Ext G w G' w'→Inv tb.fx gl G' w' sg' ow'→PRep tb.fx G' w' val v→K (a.put o.dst val) w'):o.wp P a w K Q:=by
 have hex:∀ {val:Value},(do eqGuard op t x y (a.eval x) (a.eval y);binOp op t (a.eval x) (a.eval y):Sem Value).run P w=.ok val w→(execOp a.eval o).run P w=.ok (.value val) w:=fun h=>by
  unfold execOp
  simp only[hop]
  exact a9U h
 unfold a2Q at hq
 split at hq
 ·rename_i xa xb hxa hxb
  have ra:=a4V hxa hf
  have rb:=a4V hxb hf
  have hbin:q=.bin op xa xb→o.wp P a w K Q:=by
   intro hq1
   subst hq1
   simp only[a1L,g5E] at hstep
   obtain⟨r,⟨r',hr',rfl⟩,he⟩:=hstep
   obtain⟨val,h1,h2⟩:=a5R (P:=P) t ra rb hr' x y
   exact a9T hi (hex h1) h2 he hK
  have heqv:∀ (ng ag:Bool) (ks:List Nat),op=(if ng then .neq else .eql)→a2N P 20 t=some ks→a2G P t=some ag→(ag=false→ks=[0])→(ag=true→P.eqGuardType P.depth t=false)→q=.eqv ng ag ks xa xb→o.wp P a w K Q:=by
   intro ng ag ks h1 h2 h3 h4 h5 hq1
   subst hq1
   simp only[a1L,g5E] at hstep
   obtain⟨r,⟨r',hr',rfl⟩,he⟩:=hstep
   exact a9T hi (hex (a6G x y h1 h2 h3 h4 h5 ra rb hr')) (.tbool _) he hK
  cases hu:P.underlying t with
  |none =>
   rw[hu] at hq
   simp only[a2O,hu] at hq
   cases hq
  |some ds =>
   rw[hu] at hq
   cases ds
   case int k=>exact hbin (by injection hq with hq;exact hq.symm)
   case string=>exact hbin (by injection hq with hq;exact hq.symm)
   case bool =>
    simp only at hq
    split at hq
    ·injection hq with hq
     exact heqv false false [0] rfl (by simp [a2N,hu]) (by simp [a2G,hu]) (fun _=>rfl) (by simp) hq.symm
    ·injection hq with hq
     exact heqv true false [0] rfl (by simp [a2N,hu]) (by simp [a2G,hu]) (fun _=>rfl) (by simp) hq.symm
    ·cases hq
   case struct fs =>
    simp only at hq
    split at hq
    ·rename_i ks hks
     split at hq
     ·rename_i hg
      injection hq with hq
      exact heqv false true ks rfl hks (by simp [a2G,hu]) (by simp) (fun _=>hg) hq.symm
     ·cases hq
    ·rename_i ks hks
     split at hq
     ·rename_i hg
      injection hq with hq
      exact heqv true true ks rfl hks (by simp [a2G,hu]) (by simp) (fun _=>hg) hq.symm
     ·cases hq
    ·cases hq
   case array n el =>
    simp only at hq
    split at hq
    ·rename_i ks hks
     split at hq
     ·rename_i hg
      injection hq with hq
      exact heqv false true ks rfl hks (by simp [a2G,hu]) (by simp) (fun _=>hg) hq.symm
     ·cases hq
    ·rename_i ks hks
     split at hq
     ·rename_i hg
      injection hq with hq
      exact heqv true true ks rfl hks (by simp [a2G,hu]) (by simp) (fun _=>hg) hq.symm
     ·cases hq
    ·cases hq
   all_goals
    simp only at hq
    split at hq
    ·rename_i n m hn hm
     split at hq
     ·rename_i hnm
      subst hnm
      injection hq with hq
      subst hq
      obtain⟨c,rfl⟩:∃ c,y=.const c:=by
       unfold a2P at hm
       split at hm <;> first|exact⟨_,rfl⟩|cases hm
      simp only[a1L,g5E] at hstep
      obtain⟨r,⟨r',hr',rfl⟩,he⟩:=hstep
      exact a9T hi (hex (a6H (P:=P) (ng:=false) x rfl hn hm ra hr')) (.tbool _) he hK
     ·cases hq
    ·rename_i n m hn hm
     split at hq
     ·rename_i hnm
      subst hnm
      injection hq with hq
      subst hq
      obtain⟨c,rfl⟩:∃ c,y=.const c:=by
       unfold a2P at hm
       split at hm <;> first|exact⟨_,rfl⟩|cases hm
      simp only[a1L,g5E] at hstep
      obtain⟨r,⟨r',hr',rfl⟩,he⟩:=hstep
      exact a9T hi (hex (a6H (P:=P) (ng:=true) x rfl hn hm ra hr')) (.tbool _) he hK
     ·cases hq
    ·cases hq
 ·cases hq
theorem a9X {α:Type} {sz:Nat} (hsz:0 < sz):∀ (es:List (List α)),(∀ e∈es,e.length=sz)→∀ (k:Nat) (y:α),es.flatten[k]?=some y→∃ e,es[k / sz]?=some e∧e[k % sz]?=some y:=by
 intro es
 induction es with
 |nil=>intro _ k y h;simp at h
 |cons e r ih =>
  intro hall k y h
  have he:=hall e (by simp)
  rw[g3G] at h
  rcases g4X k e.length with hlt|hge
  ·rw[g3I hlt] at h
   have h1:k / sz=0:=Nat.div_eq_of_lt (by omega)
   have h2:k % sz=k:=Nat.mod_eq_of_lt (by omega)
   exact⟨e,by rw[h1];rfl,by rw[h2];exact h⟩
  ·rw[g3J hge] at h
   obtain⟨e',h1,h2⟩:=ih (fun x hx=>hall x (by simp [hx])) _ y h
   rw[he] at h1 h2 hge
   have h3:k / sz=(k - sz) / sz+1:=Nat.div_eq_sub_div hsz hge
   have h4:k % sz=(k - sz) % sz:=Nat.mod_eq_sub_mod hge
   exact⟨e',by rw[h3,List.getElem?_cons_succ];exact h1,by rw[h4];exact h2⟩
theorem a9Y {α:Type} {sz:Nat}:∀ (es:List (List α)),(∀ e∈es,e.length=sz)→es.flatten.length=es.length * sz:=by
 intro es
 induction es with
 |nil=>intro _;simp
 |cons e r ih =>
  intro hall
  rw[g3G,g3V,ih (fun x hx=>hall x (by simp [hx])),hall e (by simp),g3W,g4Q]
  omega
theorem VRep.flat {st:Nat→Nat→Prop} {sz:Nat} {es:List (List T)} {vs:List Value} (h:VRep st w sz es vs) (hall:∀ e∈es,e.length=sz) (hsz:0 < sz) (k:Nat) (v:Value) (y:T) (hv:vs[k]?=some v) (hy:es.flatten[k]?=some y):TRep st w v y:=by
 obtain⟨e,h1,h2⟩:=a9X hsz es hall k y hy
 obtain⟨u,h3,h4⟩:=h.2 _ _ _ _ h1 h2
 rw[Nat.mul_comm,Nat.div_add_mod,hv] at h3
 injection h3 with h3
 subst h3
 exact h4
theorem a9Z {fx:List (Nat×Nat)} {sg:Sg} {ow:Ow} (hi:Inv fx gl G w sg ow) {t u ty e:TypeId} {sz by_:Nat} {z:List T} {va vb:Value} {xa xb r:PV} {sg':Sg} (ht:P.underlying t=some (.slice e)) (hu:a8T P u) (hs:a2H P e=some sz) (hby:a2I P e=some by_)
  (hz:a2K P e=some z) (hzl:z.length=sz) (hsz:0 < sz) (ha:PRep fx G w va xa) (hb:PRep fx G w vb xb) (h:a0V sg sz by_ xa xb=some (r,sg')) :
  ∃ v G' w',(Builtin.append_ #[t,u] ty #[va,vb]).run P w=.ok v w'∧Ext G w G' w'∧Inv fx gl G' w' sg' ow∧PRep fx G' w' v r:=by
 obtain⟨inf,zv,hinf,hzz,hzsz,_⟩:=a7T hz
 have hbytes:inf.bytes=by_:=by simp only[a2I,hinf,g5F,g5G] at hby;exact hby
 have hzs:zv.cells.size=sz:=by omega
 have hml:G.mu.length=sg.length:=hi.mul
 unfold a0V at h
 split at h
 ·cases h
 ·cases h
 ·rename_i e0 r0 hes
  split at h
  ·rename_i hc
   have hall:=a8O hc.1
   obtain⟨vs,g1,g2,g3⟩:=a8Q (P:=P) hi hb hes hall hsz
   have hvl:vs.length=(e0::r0).length * sz:=g1.1
   have hfl:((e0::r0).flatten.map PV.t).length=(e0::r0).length * sz:=by rw[g3X,a9Y _ hall]
   have hnew:∀ (k:Nat) (v:Value) (y:PV),vs[k]?=some v→((e0::r0).flatten.map PV.t)[k]?=some y→PRep fx G w v y:=by
    intro k v y hv hy
    simp only[g3O,g5E] at hy
    obtain⟨q,hq,rfl⟩:=hy
    exact .t (g1.flat hall hsz k v q hv hq)
   have emp:∀ (ad:Option Addr),va=.slice ad 0 0→a0N ((e0::r0).length) by_=true →
     ∃ v G' w',(Builtin.append_ #[t,u] ty #[va,vb]).run P w=.ok v w'∧Ext G w G' w'∧Inv fx gl G' w' (sg++[(false,((e0::r0).flatten).map .t)]) ow∧PRep fx G' w' v (.bf sg.length (e0::r0).length sz):=by
    intro ad hva hroom
    subst hva
    have hrun:=a8X (P:=P) (ty:=ty) (w:=w) (sLen:=0) (sCap:=0) (ad:=ad) (vo:=[]) ht hu hs hinf hzz g3 (fun w' _=>by cases ad <;> simp [Builtin.firstCells,loadCells,loadCellsFrom]) (by simp) (by rw[hbytes];simpa using hroom)
    obtain⟨hE0,hI0⟩:=hi.drew
    have hge:=grownCap_ge w (0+(e0::r0).length) 0 e
    have hsize:(([]++vs).toArray++Builtin.zeroCells zv.cells (grownCap w (0+(e0::r0).length) 0 e - (0+(e0::r0).length))).size=grownCap w (0+(e0::r0).length) 0 e * sz:=by
     rw[Array.size_append,size_zeroCells,hzs,g4O,List.nil_append,hvl,←g4Q]
     congr 1
     omega
    obtain⟨hE,hI⟩:=hI0.newLocal (([]++vs).toArray++Builtin.zeroCells zv.cells (grownCap w (0+(e0::r0).length) 0 e - (0+(e0::r0).length))) e ((e0::r0).flatten.map .t) (by
     rw[hsize,hfl]
     exact g4Y _ (by omega)) (fun j v x hv hx=>by
     have hj:j < vs.length:=by rw[hvl,←hfl];exact(g3N.1 hx).1
     rw[g2L (by simpa using hj)] at hv
     exact hE0.prep (hnew j v x (by simpa using hv) hx))
    refine⟨_,_,_,hrun,hE.drew_l hi,hI,?_⟩
    have:=PRep.bf (fx:=fx) (G:={ G with mu:=G.mu++[w.drew.heap.size] }) (w:=w.drew.alloc (.cells (([]++vs).toArray++Builtin.zeroCells zv.cells (grownCap w (0+(e0::r0).length) 0 e - (0+(e0::r0).length))) e)) sg.length (e0::r0).length sz (grownCap w (0+(e0::r0).length) 0 e) w.drew.heap.size (by rw[←hml];exact a4G _ _) (by omega) ⟨_,_,_,heap_alloc_new w.drew _,Nat.le_of_eq hsize.symm⟩
    rw[g5A] at this ⊢
    exact this
   split at h
   ·-- an empty literal
    split at h
    ·rename_i hroom
     injection h with h
     injection h with h1 h2
     subst h1 h2
     cases ha with|lit b _ _ _ _ _ _=>exact emp (some ⟨b,0,none⟩) rfl hroom
    ·cases h
   ·-- nil
    split at h
    ·rename_i hroom
     injection h with h
     injection h with h1 h2
     subst h1 h2
     have htr:=ha.t_inv
     cases htr with|nsl=>exact emp none rfl hroom
    ·cases h
   ·-- a buffer
    rename_i id len sz'
    split at h
    ·rename_i cs hsg
     split at h
     ·rename_i hc2
      injection h with h
      injection h with h1 h2
      subst h1 h2
      obtain⟨rfl,c2,c3,c4⟩:=hc2
      cases ha with|bf _ _ _ cap b hmu hcap hcc =>
      have hne:cs≠[]:=fun q=>by rw[q] at c2;simp at c2
      obtain⟨c,t',z',e1,e2,e3,e4,e5⟩:=hi.blk id b cs hmu hsg
      obtain⟨c1,t1,z1,q1,q2⟩:=hcc
      rw[e1] at q1
      injection q1 with q1
      injection q1 with qa qb qc
      subst qa qb qc
      have hlen':(cs.take (len * sz')).length=len * sz':=by rw[g4A];omega
      have hget:∀ (j:Nat) (x:PV),(cs.take (len * sz')++(e0::r0).flatten.map PV.t)[j]?=some x→(j < len * sz'∧cs[j]?=some x)∨(len * sz'≤j∧((e0::r0).flatten.map PV.t)[j - len * sz']?=some x):=by
       intro j x hx
       rcases g4X j (len * sz') with hj|hj
       ·rw[g3I (by omega),g3T] at hx
        rw[if_pos hj] at hx
        exact .inl ⟨hj,hx⟩
       ·rw[g3J (by omega),hlen'] at hx
        exact .inr ⟨hj,hx⟩
      by_cases hfit:len+(e0::r0).length≤cap
      ·-- in its place
       have hmul:(len+(e0::r0).length) * sz'≤cap * sz':=g4Y _ hfit
       rw[g4Q] at hmul
       have hbd:0+len * sz'+vs.length≤c.size:=by rw[hvl];omega
       have hrun:=a8U (P:=P) (ty:=ty) ht hu hs g3 hfit e1 hbd (fun j _=>e4 j) (g1.one hall hsz g2)
       have hgc:=a4K c (0+len * sz') vs hbd
       obtain⟨hE,hI⟩:=hi.takeOver hmu hsg hne e1 (a4I c (0+len * sz') vs) (cs.take (len * sz')++(e0::r0).flatten.map PV.t) (a4J _ _ _) (by rw[a4J,g3V,hlen',hfl];omega) (fun j v x hv hx=>by
        rw[hgc] at hv
        rcases hget j x hx with⟨k1,k2⟩|⟨k1,k2⟩
        ·rw[if_neg (by omega)] at hv
         exact e3 j v x hv k2
        ·have hjl:=(g3N.1 k2).1
         rw[hfl] at hjl
         rw[if_pos (by omega)] at hv
         exact hnew _ v x (by rw[g5A] at hv;exact hv) k2)
       refine⟨_,_,_,hrun,hE,hI,?_⟩
       refine .bf _ _ _ cap b (by simp only;rw[←hml];exact a4G _ _) hfit ⟨_,_,_,a4M w b _ (a4E e1),by rw[a4J];exact q2⟩
      ·-- it moves
       have hvo:(c.toList.take (len * sz')).length=len * sz':=by rw[g4A,g2Q];omega
       have hrun:=a8X (P:=P) (ty:=ty) (w:=w) (sLen:=len) (sCap:=cap) (ad:=some ⟨b,0,none⟩) (vo:=c.toList.take (len * sz')) ht hu hs hinf hzz g3 (fun w' hw=>by
        refine run_firstCells_some w' sz' len ⟨b,0,none⟩ len cap _ hvo (fun j v hj=>?_)
        rw[hw,a5K,g5A,cell_of_row w b j c t' z' e1]
        rw[g3T] at hj
        split at hj
        ·simpa using hj
        ·cases hj) (by omega) (by rw[hbytes];exact c4)
       obtain⟨hE0,hI0⟩:=hi.drew
       have hge:=grownCap_ge w (len+(e0::r0).length) cap e
       have hsize:((c.toList.take (len * sz')++vs).toArray++Builtin.zeroCells zv.cells (grownCap w (len+(e0::r0).length) cap e - (len+(e0::r0).length))).size=grownCap w (len+(e0::r0).length) cap e * sz':=by
        rw[Array.size_append,size_zeroCells,hzs,g4O,g3V,hvo,hvl,←g4Q,←g4Q]
        congr 1
        omega
       obtain⟨hE,hI⟩:=(hI0.giveUp hsg).newLocal ((c.toList.take (len * sz')++vs).toArray++Builtin.zeroCells zv.cells (grownCap w (len+(e0::r0).length) cap e - (len+(e0::r0).length))) e (cs.take (len * sz')++(e0::r0).flatten.map PV.t) (by
        rw[hsize,g3V,hlen',hfl,←g4Q]
        exact g4Y _ (by omega)) (fun j v x hv hx=>by
        have hjl:j < len * sz'+vs.length:=by
         have:=(g3N.1 hx).1
         rw[g3V,hlen',hfl] at this
         rw[hvl];exact this
        rw[g2L (by rw[g4O,g3V,hvo];exact hjl)] at hv
        rw[g3U] at hv
        rcases hget j x hx with⟨k1,k2⟩|⟨k1,k2⟩
        ·rw[g3I (by omega),g3T,if_pos k1] at hv
         exact hE0.prep (e3 j v x (by simpa using hv) k2)
        ·rw[g3J (by omega),hvo] at hv
         exact hE0.prep (hnew _ v x hv k2))
       refine⟨_,_,_,hrun,hE.drew_l hi,hI,?_⟩
       have:=PRep.bf (fx:=fx) (G:={ G with mu:=G.mu++[w.drew.heap.size] }) (w:=w.drew.alloc (.cells ((c.toList.take (len * sz')++vs).toArray++Builtin.zeroCells zv.cells (grownCap w (len+(e0::r0).length) cap e - (len+(e0::r0).length))) e)) sg.length (len+(e0::r0).length) sz' (grownCap w (len+(e0::r0).length) cap e) w.drew.heap.size (by rw[←hml];exact a4G _ _) (by omega) ⟨_,_,_,heap_alloc_new w.drew _,Nat.le_of_eq hsize.symm⟩
       exact this
     ·cases h
    ·cases h
   ·cases h
  ·cases h
inductive KTy:TypeDesc→Nat→Prop where
 |bool:KTy .bool 0
 |int (k:IntKind):KTy (.int k) 1
 |str:KTy .string 2
theorem b0A {kt:TypeId} {kd:Nat} (h:a2L P kt=some kd):∃ D,P.underlying kt=some D∧KTy D kd:=by
 unfold a2L at h
 split at h
 ·rename_i hu;injection h with h;subst h;exact⟨_,hu,.bool⟩
 ·rename_i k hu;injection h with h;subst h;exact⟨_,hu,.int k⟩
 ·rename_i hu;injection h with h;subst h;exact⟨_,hu,.str⟩
 ·cases h
theorem b0B {kt:TypeId} {D:TypeDesc} {kd:Nat} (hu:P.underlying kt=some D) (hD:KTy D kd) (e:Bool) (k:Value):(Instr.checkKey e 10000 kt k).run P w=.ok () w:=by
 unfold Instr.checkKey
 simp only[Sem.run_bind,run_underlying hu,Result.andThen]
 cases hD <;> rfl
theorem b0C (a b:ByteArray):(a == b)=(a.data.toList == b.data.toList):=by
 rw[Bool.eq_iff_iff,MapKept.bytes_beq,beq_iff_eq]
 constructor
 ·intro h;rw[h]
 ·intro h
  obtain⟨⟨x⟩⟩:=a
  obtain⟨⟨y⟩⟩:=b
  simp only at h
  rw[h]
theorem b0D {st:Nat→Nat→Prop} {D:TypeDesc} {kd:Nat} (hD:KTy D kd) {v u:Value} {x y:T} (hv:TRep st w v x) (hu:TRep st w u y) {b:Bool} (h:eq1 kd x y=some b):Instr.sameNow D v u=some b∧(b=true→Instr.sameBits 10000 u v=true∧Instr.sameBits 10000 v u=true):=by
 unfold eq1 at h
 split at h
 ·cases hv;cases hu;cases hD
  injection h with h
  subst h
  exact⟨rfl,fun h=>by simp only[beq_iff_eq] at h;subst h;simp [Instr.sameBits]⟩
 ·cases hv;cases hu;cases hD
  split at h
  ·rename_i hk
   subst hk
   injection h with h
   subst h
   exact⟨by simp [Instr.sameNow],fun h=>by simp only[beq_iff_eq] at h;subst h;simp [Instr.sameBits]⟩
  ·cases h
 ·cases hv with|str s =>
  cases hu with|str s' =>
  cases hD
  injection h with h
  rw[←b0C] at h
  subst h
  exact⟨rfl,fun h=>by have:=(MapKept.bytes_beq _ _).1 h;subst this;simp [Instr.sameBits,MapKept.bytes_beq]⟩
 ·cases h
theorem b0E {st:Nat→Nat→Prop} {D:TypeDesc} {kd:Nat} (hD:KTy D kd) {kv:Value} {kt:T} (hk:TRep st w kv kt) (vt:T):∀ (es:List MapEntry) (cs:List PV) (i:Nat),es.length=cs.length →
  (∀ (j:Nat) (e:MapEntry) (x:PV),es[j]?=some e→cs[j]?=some x→∃ k v,x=.tup [.t k,.t v]∧TRep st w e.key k∧TRep st w e.val v)→∀ r,a0Z kd kt cs=some r →
  (r=none∧Instr.findNow D kv es i=some none∧a1A kd kt vt cs=cs++[.tup [.t kt,.t vt]]∧a1B kd kt cs=cs) ∨
  (∃ j v e,r=some v∧Instr.findNow D kv es i=some (some (i+j,e.val))∧es[j]?=some e∧TRep st w e.val v∧Instr.sameBits 10000 e.key kv=true∧a1A kd kt vt cs=cs.set j (.tup [.t kt,.t vt])∧a1B kd kt cs=cs.eraseIdx j):=by
 intro es
 induction es with
 |nil =>
  intro cs i hl _ r h
  have:cs=[]:=g3F hl.symm
  subst this
  simp only[a0Z,g5G] at h
  exact .inl ⟨h.symm,rfl,rfl,rfl⟩
 |cons e es ih =>
  intro cs i hl hr r h
  cases cs with
  |nil=>simp at hl
  |cons x cs =>
   obtain⟨k,v,rfl,h1,h2⟩:=hr 0 e x rfl rfl
   simp only[a0Z] at h
   cases he:eq1 kd kt k with
   |none=>rw[he] at h;cases h
   |some b =>
    obtain⟨q1,q2⟩:=b0D hD hk h1 he
    rw[he] at h
    cases b with
    |true =>
     simp only[g5G] at h
     exact .inr ⟨0,v,e,h.symm,by simp [Instr.findNow,q1],rfl,h2,(q2 rfl).1,by simp [a1A,he],by simp [a1B,he]⟩
    |false =>
     simp only at h
     rcases ih cs (i+1) (by simpa using hl) (fun j e x he hx=>hr (j+1) e x (by simpa using he) (by simpa using hx)) r h with⟨p1,p2,p3,p4⟩|⟨j,v',e',p1,p2,p3,p4,p5,p6,p7⟩
     ·exact .inl ⟨p1,by simp [Instr.findNow,q1,p2],by simp [a1A,he,p3],by simp [a1B,he,p4]⟩
     ·exact .inr ⟨j+1,v',e',p1,by simp [Instr.findNow,q1,p2];omega,by simpa using p3,p4,p5,by simp [a1A,he,p6],by simp [a1B,he,p7]⟩
theorem b0F {t:TypeId} {z:T} (h:tyZ P t=some z) (w:World):∃ v,(zeroValue t).run P w=.ok v w∧∀ (st:Nat→Nat→Prop) (w':World),TRep st w' v z:=by
 unfold tyZ at h
 split at h
 ·rename_i i hi
  split at h
  ·rename_i cs hz
   simp only[g5E] at h
   obtain⟨l,hl,rfl⟩:=h
   obtain⟨h1,h2⟩:=a7S hl
   exact⟨_,a7U hi hz w,fun st w'=>.agg cs l (by simpa using h1) fun i v x hv hx=>a4R (h2 i v x (by simpa using hv) hx)⟩
  ·rename_i v hno hz
   exact⟨v,a7U hi hz w,fun st w'=>a4R h⟩
  ·cases h
 ·cases h
theorem b0G {fx:List (Nat×Nat)} {v:Value} {id:Nat} (h:PRep fx G w v (.mp id)):∃ b,v=.map (some b)∧G.mu[id]?=some b:=by
 cases h with|mp _ b hb=>exact⟨b,rfl,hb⟩
theorem b0H {fx:List (Nat×Nat)} {sg:Sg} {ow:Ow} (hi:Inv fx gl G w sg ow) {t kt el:TypeId} {kd:Nat} {z:T} {ck:Bool} {va vk:Value} {xa xk r:PV} (ht:P.underlying t=some (.map kt el)) (hkd:a2L P kt=some kd) (hz:tyZ P el=some z) (ha:PRep fx G w va xa) (hk:PRep fx G w vk xk) (h:a1C sg ck kd z xa xk=some r) :
  ∃ v,(Instr.lookup t va vk ck).run P w=.ok v w∧PRep fx G w v r:=by
 obtain⟨D,hu,hD⟩:=b0A hkd
 obtain⟨zv,hzv,hzr⟩:=b0F hz w
 unfold a1C at h
 split at h
 ·rename_i id k
  obtain⟨b,rfl,hb⟩:=b0G ha
  split at h
  ·rename_i cs hsg
   simp only[g5E] at h
   obtain⟨q,hq,rfl⟩:=h
   obtain⟨es,clk,e1,⟨e2,e3⟩,_⟩:=hi.mps id b cs hb hsg
   have hgo:=MapKept.run_getObj_map (P:=P) e1
   have hck:=b0B (P:=P) (w:=w) hu hD es.isEmpty vk
   have hfin:∀ (val:Value) (x:T) (ok:Bool),TRep G.st w val x→PRep fx G w (if ck=true then .tuple #[val,.bool ok] else val) (if ck=true then .tup [.t x,.t (.bool ok)] else .t x):=by
    intro val x ok hx
    cases ck with
    |false=>exact .t hx
    |true =>
     refine .tup #[val,.bool ok] _ rfl fun i v y hv hy=>?_
     match i with
     |0=>simp at hv hy;subst hv hy;exact .t hx
     |1=>simp at hv hy;subst hv hy;exact .tbool _
     |n+2=>simp at hv
   rcases b0E hD hk.t_inv z es.toList cs 0 (by simpa using e2) (fun j e x he hx=>e3 j e x (by simpa using he) hx) q hq with⟨rfl,p2,_,_⟩|⟨j,v,e,rfl,p2,_,p4,_,_,_⟩
   ·refine⟨_,?_,hfin zv z false (hzr _ _)⟩
    simp only[Instr.lookup,Sem.run_bind,run_underlying ht,Result.andThen_ok,hgo,hck,Sem.run_pure,MapKept.run_findKey hu p2,hzv]
   ·refine⟨_,?_,hfin e.val v true p4⟩
    simp only[Instr.lookup,Sem.run_bind,run_underlying ht,Result.andThen_ok,hgo,hck,Sem.run_pure,MapKept.run_findKey hu p2]
  ·cases h
 ·cases h
theorem b0I {fx:List (Nat×Nat)} {sg:Sg} {ow:Ow} (hi:Inv fx gl G w sg ow) {t kt el:TypeId} {kd:Nat} {va vk vv:Value} {xa xk xv:PV} {sg':Sg} (ht:P.underlying t=some (.map kt el)) (hkd:a2L P kt=some kd) (ha:PRep fx G w va xa) (hk:PRep fx G w vk xk) (hv:PRep fx G w vv xv) (h:a1D sg kd xa xk xv=some sg') :
  ∃ w',(Instr.mapUpdate t va vk vv).run P w=.ok () w'∧Ext G w G w'∧Inv fx gl G w' sg' ow:=by
 obtain⟨D,hu,hD⟩:=b0A hkd
 unfold a1D at h
 split at h
 ·rename_i id k
  obtain⟨b,rfl,hb⟩:=b0G ha
  split at h
  ·rename_i cs x hsg hx
   simp only[g5E] at h
   obtain⟨q,hq,rfl⟩:=h
   obtain⟨es,clk,e1,⟨e2,e3⟩,_⟩:=hi.mps id b cs hb hsg
   have hgo:=MapKept.run_getObj_map (P:=P) e1
   have hck:=b0B (P:=P) (w:=w) hu hD false vk
   have hxr:=a8F hv hx
   rcases b0E hD hk.t_inv x es.toList cs 0 (by simpa using e2) (fun j e x he hx=>e3 j e x (by simpa using he) hx) q hq with⟨rfl,p2,p3,_⟩|⟨j,v,e,rfl,p2,p3,p4,p5,p6,_⟩
   ·obtain⟨hE,hI⟩:=hi.setMap hb hsg e1 (es.push { key:=vk,val:=vv,born:=clk }) (clk+1) (a1A kd k x cs) (by
     rw[p3]
     refine⟨by simp [e2],fun j e y he hy=>?_⟩
     rw[Array.getElem?_push] at he
     rcases a4F _ _ _ _ hy with hy'|⟨hy',rfl⟩
     ·have hlt:=(g3N.1 hy').1
      rw[if_neg (by omega)] at he
      exact e3 j e y he hy'
     ·rw[if_pos (by omega)] at he
      injection he with he
      subst he
      exact⟨k,x,rfl,hk.t_inv,hxr⟩)
    refine⟨_,?_,hE,hI⟩
    simp only[Instr.mapUpdate,Sem.run_bind,run_underlying ht,Result.andThen_ok,hgo,hck,MapKept.run_findKey hu p2,MapKept.run_setObj_map _ e1]
    rfl
   ·have hj:es[j]?=some e:=by simpa using p3
    have hkeep:(Instr.keyThatStays (((es[0+j]?).map (·.key)).getD vk) vk).run P w=.ok vk w:=by
     rw[g5A,hj]
     simp [Instr.keyThatStays,p5]
    obtain⟨hE,hI⟩:=hi.setMap hb hsg e1 (es.modify (0+j) fun e=>{ e with key:=vk,val:=vv }) clk (a1A kd k x cs) (by
     rw[p6,g5A]
     refine⟨by simp [e2],fun i e' y he hy=>?_⟩
     rw[Array.getElem?_modify] at he
     by_cases hij:j=i
     ·subst hij
      rw[if_pos rfl,hj] at he
      have hjl:j < cs.length:=by rw[←e2];exact(g2N.1 hj).1
      rw[g3S hjl] at hy
      injection hy with hy
      subst hy
      simp only[g5F,g5G] at he
      subst he
      exact⟨k,x,rfl,hk.t_inv,hxr⟩
     ·rw[if_neg hij] at he
      rw[g3R hij] at hy
      exact e3 i e' y he hy)
    refine⟨_,?_,hE,hI⟩
    simp only[Instr.mapUpdate,Sem.run_bind,run_underlying ht,Result.andThen_ok,hgo,hck,MapKept.run_findKey hu p2,hkeep,MapKept.run_setObj_map _ e1]
    rfl
  ·cases h
 ·cases h
theorem b0J {st:Nat→Nat→Prop} {es:Array MapEntry} {cs:List PV} (h:a1U st w es cs) (j:Nat):a1U st w (es.eraseIdxIfInBounds j) (cs.eraseIdx j):=by
 have hl:(es.eraseIdxIfInBounds j).toList=es.toList.eraseIdx j:=by
  unfold Array.eraseIdxIfInBounds
  split
  ·simp only[Array.toList_eraseIdx]
  ·rename_i hn
   rw[List.eraseIdx_of_length_le (by simpa using hn)]
 refine⟨?_,fun i e x he hx=>?_⟩
 ·rw[←g2Q,hl,List.length_eraseIdx,List.length_eraseIdx,g2Q,h.1]
 ·have he':(es.toList.eraseIdx j)[i]?=some e:=by rw[←hl,Array.getElem?_toList];exact he
  rw[List.getElem?_eraseIdx] at he' hx
  split at he'
  ·rename_i hij
   rw[if_pos hij] at hx
   exact h.2 i e x (by simpa using he') hx
  ·rename_i hij
   rw[if_neg hij] at hx
   exact h.2 (i+1) e x (by simpa using he') hx
theorem b0K {fx:List (Nat×Nat)} {sg:Sg} {ow:Ow} (hi:Inv fx gl G w sg ow) {t kt el ty:TypeId} {ts:Array TypeId} {kd:Nat} {va vk:Value} {xa xk:PV} {sg':Sg} (hts:ts[0]?=some t) (ht:P.underlying t=some (.map kt el)) (hkd:a2L P kt=some kd) (ha:PRep fx G w va xa) (hk:PRep fx G w vk xk) (h:a1E sg kd xa xk=some sg') :
  ∃ w',(Builtin.delete_ ts ty #[va,vk]).run P w=.ok (.tuple #[]) w'∧Ext G w G w'∧Inv fx gl G w' sg' ow:=by
 obtain⟨D,hu,hD⟩:=b0A hkd
 have e01:(#[va,vk]:Array Value)[0]?=some va:=rfl
 have e02:(#[va,vk]:Array Value)[1]?=some vk:=rfl
 unfold a1E at h
 split at h
 ·rename_i id k
  obtain⟨b,rfl,hb⟩:=b0G ha
  split at h
  ·rename_i cs hsg
   simp only[g5E] at h
   obtain⟨q,hq,rfl⟩:=h
   obtain⟨es,clk,e1,hm,_⟩:=hi.mps id b cs hb hsg
   obtain⟨e2,e3⟩:=hm
   have hgo:=MapKept.run_getObj_map (P:=P) e1
   have hck:=b0B (P:=P) (w:=w) hu hD es.isEmpty vk
   rcases b0E hD hk.t_inv .nptr es.toList cs 0 (by simpa using e2) (fun j e x he hx=>e3 j e x (by simpa using he) hx) q hq with⟨rfl,p2,_,p4⟩|⟨j,v,e,rfl,p2,p3,_,_,_,p7⟩
   ·obtain⟨hE,hI⟩:=hi.setMap hb hsg e1 es clk (a1B kd k cs) (by rw[p4];exact⟨e2,e3⟩)
    refine⟨_,?_,hE,hI⟩
    simp only[Builtin.delete_,hts,e01,e02,Sem.run_bind,run_underlying ht,Result.andThen_ok,hgo,hck,MapKept.run_findKey hu p2,MapKept.run_setObj_map _ e1,Sem.run_pure]
    rfl
   ·obtain⟨hE,hI⟩:=hi.setMap hb hsg e1 (es.eraseIdxIfInBounds (0+j)) clk (a1B kd k cs) (by rw[p7,g5A];exact b0J ⟨e2,e3⟩ j)
    refine⟨_,?_,hE,hI⟩
    simp only[Builtin.delete_,hts,e01,e02,Sem.run_bind,run_underlying ht,Result.andThen_ok,hgo,hck,MapKept.run_findKey hu p2,MapKept.run_setObj_map _ e1,Sem.run_pure]
    rfl
  ·cases h
 ·cases h
theorem b0L {fx:List (Nat×Nat)} {ts:Array TypeId} {ty:TypeId} {va vb:Value} {xa xb:PV} {r:T} (ha:PRep fx G w va xa) (hb:PRep fx G w vb xb) (h:mxT true xa xb=some r):∃ v,(Builtin.max_ ts ty #[va,vb]).run P w=.ok v w∧PRep fx G w v (.t r):=by
 unfold mxT at h
 split at h
 ·injection h with h
  subst h
  have:=ha.int_inv
  have:=hb.int_inv
  subst va vb
  exact⟨_,by simp [Builtin.max_,Builtin.max2],.tint _ _⟩
 ·cases h
theorem b0M {fx:List (Nat×Nat)} {ts:Array TypeId} {ty:TypeId} {va vb:Value} {xa xb:PV} {r:T} (ha:PRep fx G w va xa) (hb:PRep fx G w vb xb) (h:mxT false xa xb=some r):∃ v,(Builtin.min_ ts ty #[va,vb]).run P w=.ok v w∧PRep fx G w v (.t r):=by
 unfold mxT at h
 split at h
 ·injection h with h
  subst h
  have:=ha.int_inv
  have:=hb.int_inv
  subst va vb
  exact⟨_,by simp [Builtin.min_,Builtin.min2],.tint _ _⟩
 ·cases h
theorem b0N {t kt el:TypeId} {r:Option Value} (ht:P.underlying t=some (.map kt el)) (hr:r=none∨∃ k n,r=some (.int k n)):(Instr.makeMap t r).run P w=.ok (.map (some w.heap.size)) (w.alloc (.map #[] 0)):=by
 rcases hr with rfl|⟨k,n,rfl⟩
 ·simp [Instr.makeMap,Result.andThen]
 ·simp [Instr.makeMap,run_underlying ht,asInt,asIntOf,Result.andThen]
theorem b0O {c:Call} {xa xb:Opd} (has:a2F tb nt c.args.toList=some [xa,xb]):∃ x y,c.args=#[x,y]∧a2D tb nt x=some xa∧a2D tb nt y=some xb:=by
 cases hl:c.args.toList with
 |nil=>rw[hl] at has;simp [a2F] at has
 |cons x r =>
  rw[hl] at has
  simp only[a2F] at has
  split at has
  ·rename_i y' ys h1 h2
   injection has with has
   injection has with e1 e2
   subst e1 e2
   cases r with
   |nil=>simp [a2F] at h2
   |cons z r =>
    simp only[a2F] at h2
    split at h2
    ·rename_i z' zs h3 h4
     injection h2 with h2
     injection h2 with e1 e2
     subst e1 e2
     cases r with
     |nil=>exact⟨x,z,by apply Array.ext';simpa using hl,h1,h3⟩
     |cons z2 r2=>simp only[a2F] at h4;split at h4 <;> cases h4
    ·cases h2
  ·cases has
end Go.Pi
