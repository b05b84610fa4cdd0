/- PI 15: make; one operation of the model is one of the small language. -/
import Derived.Below
import Derived.Test.YtdjcnfacjfnakaaGreatPi14
import Derived.MapKept
set_option linter.unusedSimpArgs false
set_option linter.unusedVariables false
namespace Go.Pi
variable {P:Program} {tb:Tb} {fx:List (Nat×Nat)} {gl:Nat->Option (List T)} {G:Gh} {w:World} {sg:Sg} {ow:Ow} {nt:Nat} {a:Act} {fr:List PV}
theorem a8I (hi:Inv fx gl G w sg ow) {t el:TypeId} {sz by_:Nat} {z:List T} {l c:Int} (ht:P.underlying t=some (.slice el)) (hs:a2A P el=some sz) (hby:a2B P el=some by_) (hz:a2D P el=some z) (h0:0<=l) (hlc:l<=c) (hroom:a0M c.toNat by_=true)
  (hzl:z.length=sz) (hsz:0 < sz):∃ v w',(Instr.makeSlice t (.int .i64 l) (.int .i64 c)).run P w=.ok v w' /\
   (l=0->∃ G',Ext G w G' w'/\Inv fx gl G' w' sg (ow++[0])/\PRep fx G' w' v (.own ow.length sz [])) /\
   (∃ G',Ext G w G' w'/\Inv fx gl G' w' (sg++[(false,(List.replicate c.toNat z).flatten.map .t)]) ow/\PRep fx G' w' v (.ls sg.length 0 l.toNat sz)):=by
 obtain⟨inf,zv,hinf,hzz,hzsz,hzr⟩:=a7A hz
 have hbytes:inf.bytes=by_:=by simp only[a2B,hinf,g7F,g7G] at hby;exact hby
 have hsize:inf.size=sz:=by simp only[a2A,hinf,g7F,g7G] at hs;exact hs
 obtain⟨r1,r2⟩:=a7S hroom
 have hb:(inf.bytes:Int) * c<=281474976710656:=by
  have h1:((c.toNat * by_:Nat):Int)<=140737488355328:=by omega
  rw[Int.natCast_mul,Int.toNat_of_nonneg (by omega)] at h1
  rw[hbytes,Int.mul_comm]
  omega
 have hrun:=run_make (P:=P) w t el inf zv ht hinf hzz .i64 .i64 l c h0 hlc hb (by omega)
 rw[hsize] at hrun
 refine⟨_,_,hrun,λhl0=>?_,?_⟩
 ·subst hl0
  obtain⟨hE,hI⟩:=hi.newOwn (madeCells zv.cells (c.toNat * sz)) el (0,0) 0 sz c.toNat 0 hsz (by omega) (by rw[size_madeCells];exact g6U _) (.inl ⟨rfl,λj _=>by simp⟩)
  have htk:G.tk.length=ow.length:=hi.tkl
  have hfr:G.fr.length=ow.length:=by rw[hi.fr]
  refine⟨_,hE,hI,?_⟩
  refine .own ow.length sz 0 ⟨w.heap.size,0,none⟩ c.toNat [] ?_ (by simp only;rw[<-hfr];exact a3S _ _) (by simp) (λ_=>⟨w.heap.size,0,?_,rfl,by simp⟩)
  ·exact .sl _ _ sz [] (λ_ _=>undef) (by simp) (by simp) (by simp) (by simp) (by simp) (by simp)
  ·simp only
   rw[<-htk]
   exact a3S _ _
 ·have hz':CRep fx G w (madeCells zv.cells (c.toNat * sz)) ((List.replicate c.toNat z).flatten.map .t):=a7J hzl hsz hzsz hzr
  obtain⟨hE,hI⟩:=hi.newLocal (madeCells zv.cells (c.toNat * sz)) el _ (Nat.le_of_eq hz'.1.symm) hz'.2
  refine⟨_,hE,hI,?_⟩
  refine .ls sg.length 0 l.toNat sz c.toNat w.heap.size _ ?_ (by omega) (.inr rfl)
  simp only
  rw[<-hi.mul]
  exact a3S _ _
theorem a8J (z:List T) (sz:Nat) (hz:z.length=sz):∀ (c i j:Nat),i < c->j < sz->(List.replicate c z).flatten[i * sz+j]?=z[j]?:=by
 intro c
 induction c with
 |zero=>intro i j h;omega
 |succ c ih =>
  intro i j hi hj
  rw[List.replicate_succ,g5H]
  cases i with
  |zero=>rw[Nat.zero_mul,g7A,g5J (by omega)]
  |succ i =>
   rw[Nat.succ_mul,g5K (by omega),hz]
   have:i * sz+sz+j - sz=i * sz+j:=by omega
   rw[this]
   exact ih i j (by omega) hj
theorem a8K (hi:Inv fx gl G w sg ow) {t el:TypeId} {sz by_:Nat} {z:List T} {l c:Int} (ht:P.underlying t=some (.slice el)) (hs:a2A P el=some sz) (hby:a2B P el=some by_) (hz:a2D P el=some z) (h0:0<=l) (hlc:l<=c) (hroom:a0M c.toNat by_=true)
  (hzl:z.length=sz) (hsz:0 < sz) (hag:z.any T.isAgg=false):∃ v w' G',(Instr.makeSlice t (.int .i64 l) (.int .i64 c)).run P w=.ok v w'/\Ext G w G' w'/\Inv fx gl G' w' sg ow/\PRep fx G' w' v (.t (.sl false (List.replicate l.toNat z))):=by
 obtain⟨inf,zv,hinf,hzz,hzsz,hzr⟩:=a7A hz
 have hbytes:inf.bytes=by_:=by simp only[a2B,hinf,g7F,g7G] at hby;exact hby
 have hsize:inf.size=sz:=by simp only[a2A,hinf,g7F,g7G] at hs;exact hs
 obtain⟨r1,r2⟩:=a7S hroom
 have hb:(inf.bytes:Int) * c<=281474976710656:=by
  have h1:((c.toNat * by_:Nat):Int)<=140737488355328:=by omega
  rw[Int.natCast_mul,Int.toNat_of_nonneg (by omega)] at h1
  rw[hbytes,Int.mul_comm]
  omega
 have hrun:=run_make (P:=P) w t el inf zv ht hinf hzz .i64 .i64 l c h0 hlc hb (by omega)
 rw[hsize] at hrun
 have hz':CRep fx G w (madeCells zv.cells (c.toNat * sz)) ((List.replicate c.toNat z).flatten.map .t):=a7J hzl hsz hzsz hzr
 obtain⟨hE,hI⟩:=hi.newTree (madeCells zv.cells (c.toNat * sz)) el (0,0) (c.toNat * sz)
 refine⟨_,_,_,hrun,hE,hI,.t ?_⟩
 have hlen:(List.replicate l.toNat z).length=l.toNat:=List.length_replicate
 have hat:∀ (i j:Nat) (e:List T) (x:T),(List.replicate l.toNat z)[i]?=some e->e[j]?=some x->i * sz+j < c.toNat * sz/\((List.replicate c.toNat z).flatten.map PV.t)[i * sz+j]?=some (.t x):=by
  intro i j e x he hx
  have hi1:i < l.toNat:=by rw[<-hlen];exact(g5O.1 he).1
  have hez:e=z:=List.eq_of_mem_replicate (g6K he)
  subst hez
  have hj:j < sz:=by rw[<-hzl];exact(g5O.1 hx).1
  refine⟨?_,?_⟩
  ·have h1:(i+1) * sz<=c.toNat * sz:=g6Y _ (by omega)
   rw[Nat.succ_mul] at h1
   omega
  ·rw[g5P,a8J e sz hzl c.toNat i j (by omega) hj,hx];rfl
 have key:=TRep.sl (st:=λb o=>G.st b o\/(b=w.heap.size/\o < c.toNat * sz)) (w:=w.alloc (.cells (madeCells zv.cells (c.toNat * sz)) el (0,0))) ⟨w.heap.size,0,none⟩ c.toNat sz (List.replicate l.toNat z)
  (λi j=>(madeCells zv.cells (c.toNat * sz))[i * sz+j]!) (by rw[hlen];omega) (λ_=>rfl) (λe he=>by rw[List.eq_of_mem_replicate he];exact hzl)
  (λe he x hx=>by
   rw[List.eq_of_mem_replicate he] at hx
   cases hq:x.isAgg with
   |false=>rfl
   |true=>rw[List.any_eq_true.2 ⟨x,hx,hq⟩] at hag;cases hag)
  (λi j e x he hx=>by
   obtain⟨h1,h2⟩:=hat i j e x he hx
   have hlt:i * sz+j < (madeCells zv.cells (c.toNat * sz)).size:=by rw[size_madeCells];exact h1
   refine⟨?_,.inr ⟨rfl,by simpa using h1⟩⟩
   rw[cell_of_row _ w.heap.size (0+(i * sz+j)) _ el (0,0) (heap_alloc_new w _),g7A,g4O hlt,getElem!_pos (madeCells zv.cells (c.toNat * sz)) (i * sz+j) hlt])
  (λi j e x he hx=>by
   obtain⟨h1,h2⟩:=hat i j e x he hx
   have hlt:i * sz+j < (madeCells zv.cells (c.toNat * sz)).size:=by rw[size_madeCells];exact h1
   rw[getElem!_pos (madeCells zv.cells (c.toNat * sz)) (i * sz+j) hlt]
   exact hE.trep (hz'.2 _ _ _ (g4O hlt) h2).t_inv)
 rw[hlen] at key
 exact key
def a8L (P:Program) (tb:Tb) (gl:Nat->Option (List T)) (C:Cal):Prop :=
 ∀ (f g:Nat) (args:List PV) (sg:Sg) (ow:Ow) (r:PV) (sg':Sg) (ow':Ow),C f args sg ow=some (r,sg',ow')->(f,g)∈tb.fx->∀ (G:Gh) (w:World) (vs:Array Value),Inv tb.fx gl G w sg ow->a1N tb.fx G w vs args ->
  Calls P g vs w λe w'=>∃ v G',e=.returned v/\Ext G w G' w'/\Inv tb.fx gl G' w' sg' ow'/\PRep tb.fx G' w' v r
def XxOk (P:Program) (fx:List (Nat×Nat)) (k g:Nat):Prop :=
 ∀ (ts:List T) (r:PV) (vs:Array Value) (G:Gh) (w:World) (gl:Nat->Option (List T)),(∀ (g:Nat) (ts:List T) (j:Nat) (x:T),gl g=some ts->ts[j]?=some x->∃ v,w.cell? ⟨g,j,none⟩=some v/\TRep G.st w v x/\G.st g j)->a0O gl k ts=some r->vs.size=ts.length ->
  (∀ (i:Nat) (v:Value) (x:T),vs[i]?=some v->ts[i]?=some x->TRep G.st w v x) ->
  (∃ v,(callFunc g vs).run P w=.ok (.value v) w/\PRep fx G w v r) \/
  ((callFunc g vs).run P w=.ok (.enter g vs) w/\Calls P g vs w λe w'=>∃ v st',e=.returned v/\RowKit.Below w.heap.size w w'/\(∀ b o,G.st b o->st' b o)/\(∀ b o,st' b o->G.st b o\/(w.heap.size<=b/\b < w'.heap.size))/\PRep fx { G with st:=st' } w' v r)
structure TbOk (P:Program) (tb:Tb):Prop where
 fx : ∀ k g, (k, g) ∈ tb.fx -> ∃ fn c, P.funcs[g]? = some fn /\ fn.body = some c /\ (fn.name == "runtime.NumGoroutine") = false
 xx:∀ k g,(k,g)∈tb.xx->XxOk P tb.fx k g
theorem a8M {g : Nat} {fn : Func} {c : Code} (hf : P.funcs[g]? = some fn) (hb : fn.body = some c) (hn : (fn.name == "runtime.NumGoroutine") = false) (vs : Array Value) (w : World) : (callFunc g vs).run P w = .ok (.enter g vs) w := by
 have hn' : ¬ fn.name = "runtime.NumGoroutine" := by simpa using hn
 simp [callFunc,hf,hb,hn']
theorem a8N {C:Cal} (hC:a8L P tb gl C) (hi:Inv tb.fx gl G w sg ow) {f g:Nat} (hfg:(f,g)∈tb.fx) {ts:List T} {r:PV} {sg':Sg} {ow':Ow} {vs:Array Value} (h:C f (ts.map .t) [] []=some (r,sg',ow')) (hl:vs.size=ts.length)
  (hr:∀ (i:Nat) (v:Value) (x:T),vs[i]?=some v->ts[i]?=some x->TRep G.st w v x) :
  Calls P g vs w λe w'=>∃ v Gc,e=.returned v/\Ext ⟨[],[],[],G.st,w.heap.size⟩ w Gc w'/\Inv tb.fx gl Gc w' sg' ow'/\PRep tb.fx Gc w' v r:=by
 have hI:Inv tb.fx gl ⟨[],[],[],G.st,w.heap.size⟩ w [] []:=⟨rfl,rfl,by simp,by simp,by simp,rfl,by simp,by simp,by simp,hi.stlt,hi.glob,g6U _⟩
 refine hC f g _ [] [] r sg' ow' h hfg ⟨[],[],[],G.st,w.heap.size⟩ w vs hI ⟨by simpa using hl,λi v x hv hx=>?_⟩
 simp only[g5P,g7E] at hx
 obtain⟨q,hq,rfl⟩:=hx
 exact .t (hr i v q hv hq)
theorem a8O (hi:Inv fx gl G w sg ow) {Gc:Gh} {w':World} {sg':Sg} {ow':Ow} (hE:Ext ⟨[],[],[],G.st,w.heap.size⟩ w Gc w') (hI:Inv fx gl Gc w' sg' ow') :
  let st':=λb o=>Gc.st b o\/(b < w'.heap.size/\∃ i:Nat,Gc.mu[i]?=some b)
  (Ext G w { G with st:=st' } w'/\Inv fx gl { G with st:=st' } w' sg ow) /\
  ∀ (k b o sz cap n:Nat),Gc.tk[k]?=some (b,o,sz,cap)->ow'[k]?=some n->Ext G w ⟨G.mu,G.tk++[(b,o,sz,cap)],G.fr++[n],st',G.bs⟩ w'/\Inv fx gl ⟨G.mu,G.tk++[(b,o,sz,cap)],G.fr++[n],st',G.bs⟩ w' sg (ow++[n]):=by
 intro st'
 have hkeep:∀ b,b < w.heap.size->w'.heap[b]?=w.heap[b]?:=by
  intro b hb
  rcases hE.keep b hb (by simp) (by simp) with h|⟨h,_⟩
  ·exact h
  ·simp only at h;omega
 have hmunew:∀ (i b:Nat),Gc.mu[i]?=some b->w.heap.size<=b:=λi b h=>by
  rcases hE.mu_new h with⟨_,h⟩|h
  ·simp at h
  ·exact h
 have hstn:∀ b o,st' b o->G.st b o\/w.heap.size<=b:=by
  intro b o hs
  rcases hs with hs|⟨_,i,hi'⟩
  ·rcases hE.stn b o hs with h|h|⟨k,x,h⟩|⟨i,h⟩
   ·exact .inl h
   ·exact .inr h
   ·simp at h
   ·simp at h
  ·exact .inr (hmunew i b hi')
 have hst:∀ b o,G.st b o->st' b o:=λb o h=>.inl (hE.st b o h)
 have hcell:∀ b o,G.st b o->w'.cell? ⟨b,o,none⟩=w.cell? ⟨b,o,none⟩:=hE.cell
 have hstlt:∀ b o,st' b o->b < w'.heap.size:=λb o h=>by
  rcases h with h|⟨h,_⟩
  ·exact hI.stlt b o h
  ·exact h
 have hext0:Ext G w { G with st:=st' } w':=⟨⟨[],by simp⟩,λk n h=>⟨n,h,g6U _,λ_=>rfl⟩,λk b x h=>.inl ⟨x,h⟩,hst,λb o h=>by
  rcases hstn b o h with h|h
  ·exact .inl h
  ·exact .inr (.inl h),hcell,λb hb _ _=>.inl (hkeep b hb),rfl,hE.size,hE.os,hE.tape,hE.output,λb c t z hb=>⟨c,z,by rw[hkeep b (a3Q hb)];exact hb,rfl⟩⟩
 have hblk:∀ (G1:Gh),G1.mu=G.mu->G1.st=st'->Ext G w G1 w'->∀ (i b:Nat) (cs:List PV),G1.mu[i]?=some b->sg[i]?=some (false,cs) ->
  ∃ (c:Array Value) (t:TypeId) (z:Nat×Nat),w'.heap[b]?=some (.cells c t z)/\cs.length<=c.size/\(∀ (j:Nat) (v:Value) (x:PV),c[j]?=some v->cs[j]?=some x->PRep fx G1 w' v x) /\
   (∀ o,o < c.size->¬(z.1<=o/\o < z.2))/\(cs≠[]->∀ o,¬G1.st b o):=by
  intro G1 hmu hst1 hx i b cs hi' hs
  rw[hmu] at hi'
  obtain⟨c,t,z,e1,e2,e3,e4⟩:=hi.blk i b cs hi' hs
  have hlt:=a3Q e1
  refine⟨c,t,z,by rw[hkeep b hlt];exact e1,e2,λj v x hv hx'=>hx.prep (e3 j v x hv hx'),e4.1,λqq o hs=>?_⟩
  rw[hst1] at hs
  rcases hstn b o hs with h|h
  ·exact e4.2 qq o h
  ·omega
 have hmps:∀ (G1:Gh),G1.mu=G.mu->G1.st=st'->Ext G w G1 w'->∀ (i b:Nat) (cs:List PV),G1.mu[i]?=some b->sg[i]?=some (true,cs) ->
  ∃ (es:Array MapEntry) (k:Nat),w'.heap[b]?=some (.map es k)/\a1O G1.st w' es cs/\∀ o,¬G1.st b o:=by
  intro G1 hmu hst1 hx i b cs hi' hs
  rw[hmu] at hi'
  obtain⟨es,k,e1,e2,e3⟩:=hi.mps i b cs hi' hs
  have hlt:=a3Q e1
  refine⟨es,k,by rw[hkeep b hlt];exact e1,hx.mrep e2,λo hs=>?_⟩
  rw[hst1] at hs
  rcases hstn b o hs with h|h
  ·exact e3 o h
  ·omega
 have htok:∀ (k b o sz cap n:Nat),G.tk[k]?=some (b,o,sz,cap)->ow[k]?=some n->0 < sz/\n<=cap /\
  ∃ (c:Array Value) (t:TypeId) (z:Nat×Nat),w'.heap[b]?=some (.cells c t z)/\cap * sz<=c.size/\Tz o t n sz c.size z/\∀ j,n * sz<=j->¬st' b j:=by
  intro k b o sz cap n hk hn
  obtain⟨h1,h2,c,t,z,e1,e2,e3,e4⟩:=hi.tok k b o sz cap n hk hn
  have hlt:=a3Q e1
  refine⟨h1,h2,c,t,z,by rw[hkeep b hlt];exact e1,e2,e3,λj hj hs=>?_⟩
  rcases hstn b j hs with h|h
  ·exact e4 j hj h
  ·omega
 have hglob:∀ (G1:Gh),G1.st=st'->Ext G w G1 w'->∀ (g:Nat) (ts:List T) (j:Nat) (x:T),gl g=some ts->ts[j]?=some x->∃ v,w'.cell? ⟨g,j,none⟩=some v/\TRep G1.st w' v x/\G1.st g j:=by
  intro G1 hst1 hx g ts j x hg hx'
  obtain⟨v,e1,e2,e3⟩:=hi.glob g ts j x hg hx'
  exact⟨v,(hcell _ _ e3).trans e1,hx.trep e2,by rw[hst1];exact hst _ _ e3⟩
 refine⟨⟨hext0,⟨hi.fr,hi.mul,hi.muinj,hblk _ rfl rfl hext0,hmps _ rfl rfl hext0,hi.tkl,htok,hi.tkmu,hi.tkinj,hstlt,hglob _ rfl hext0,g6V hi.bsz hE.size⟩⟩,λk b o sz cap n hk hn=>?_⟩
 have hbnew:w.heap.size<=b:=by
  rcases hE.tkb k b _ hk with⟨y,h⟩|h
  ·simp at h
  ·exact h
 have hkl:G.tk.length=G.fr.length:=by rw[hi.tkl,hi.fr]
 have hext1:Ext G w ⟨G.mu,G.tk++[(b,o,sz,cap)],G.fr++[n],st',G.bs⟩ w':=⟨⟨[],by simp⟩,λk m hk=>⟨m,a3T _ _ _ _ hk,g6U _,λ_=>by
   have hlt:k < G.tk.length:=by rw[hkl];exact(g5O.1 hk).1
   exact g5J hlt⟩,λk b' x hk=>by
   rcases a3R _ _ _ _ hk with hk|⟨_,hk⟩
   ·exact .inl ⟨x,hk⟩
   ·injection hk with hk _
    exact .inr (by omega),hst,λb o h=>by
  rcases hstn b o h with h|h
  ·exact .inl h
  ·exact .inr (.inl h),hcell,λb hb _ _=>.inl (hkeep b hb),rfl,hE.size,hE.os,hE.tape,hE.output,λb c t z hb=>⟨c,z,by rw[hkeep b (a3Q hb)];exact hb,rfl⟩⟩
 refine⟨hext1,⟨by simp [hi.fr],hi.mul,hi.muinj,hblk _ rfl rfl hext1,hmps _ rfl rfl hext1,by simp [hi.tkl],?_,?_,?_,hstlt,hglob _ rfl hext1,g6V hi.bsz hE.size⟩⟩
 ·intro k' b' o' sz' cap' n' hk' hn'
  rcases a3R _ _ _ _ hk' with h1|⟨h1,h2⟩ <;> rcases a3R _ _ _ _ hn' with h3|⟨h3,h4⟩
  ·exact htok k' b' o' sz' cap' n' h1 h3
  ·have:=(g5O.1 h1).1
   rw[hi.tkl] at this;omega
  ·have:=(g5O.1 h3).1
   rw[hi.tkl] at h1;omega
  ·injection h2 with q1 q2
   injection q2 with q2 q3
   injection q3 with q3 q4
   subst q1 q2 q3 q4 h4
   obtain⟨p1,p2,c,t,z,e1,e2,e3,e4⟩:=hI.tok k b' o' sz' cap' n' hk hn
   refine⟨p1,p2,c,t,z,e1,e2,e3,λj hj hs=>?_⟩
   rcases hs with hs|⟨_,i,hi'⟩
   ·exact e4 j hj hs
   ·exact hI.tkmu k b' _ i hk hi'
 ·intro k' b' x i hk' hi'
  rcases a3R _ _ _ _ hk' with h1|⟨_,h2⟩
  ·exact hi.tkmu k' b' x i h1 hi'
  ·injection h2 with h2 _
   have:=hi.mu_lt hi'
   omega
 ·intro k1 k2 b' x y h1 h2
  rcases a3R _ _ _ _ h1 with p1|⟨p1,p2⟩ <;> rcases a3R _ _ _ _ h2 with p3|⟨p3,p4⟩
  ·exact hi.tkinj k1 k2 b' x y p1 p3
  ·injection p4 with p4 _
   have:=hi.tk_lt p1;omega
  ·injection p2 with p2 _
   have:=hi.tk_lt p3;omega
  ·omega
theorem a8P (hi:Inv fx gl G w sg ow) {w':World} {st':Nat->Nat->Prop} (hb:RowKit.Below w.heap.size w w') (h1:∀ b o,G.st b o->st' b o) (h2:∀ b o,st' b o->G.st b o\/(w.heap.size<=b/\b < w'.heap.size)) {v:Value} {r:PV} (hp:PRep fx { G with st:=st' } w' v r) :
  ∃ G',Ext G w G' w'/\Inv fx gl G' w' sg ow/\PRep fx G' w' v r:=by
 have hcell:∀ b o,G.st b o->w'.cell? ⟨b,o,none⟩=w.cell? ⟨b,o,none⟩:=λb o h=>hb.cell (hi.stlt b o h)
 have hE:Ext ⟨[],[],[],G.st,w.heap.size⟩ w ⟨[],[],[],st',w.heap.size⟩ w':=⟨⟨[],by simp⟩,by simp,by simp,h1,λb o h=>by
  rcases h2 b o h with h|h
  ·exact .inl h
  ·exact .inr (.inl h.1),hcell,λb hb' _ _=>.inl (hb.block b hb'),rfl,hb.size,hb.os,hb.tape,hb.output,λb c t z hb'=>⟨c,z,by rw[hb.block b (a3Q hb')];exact hb',rfl⟩⟩
 have hstlt:∀ b o,st' b o->b < w'.heap.size:=λb o h=>by
  rcases h2 b o h with h|h
  ·exact g6W (hi.stlt b o h) hb.size
  ·exact h.2
 have hI:Inv fx gl ⟨[],[],[],st',w.heap.size⟩ w' [] []:=⟨rfl,rfl,by simp,by simp,by simp,rfl,by simp,by simp,by simp,hstlt,λg ts j x hg hx=>by
  obtain⟨v,e1,e2,e3⟩:=hi.glob g ts j x hg hx
  exact⟨v,(hcell _ _ e3).trans e1,hE.trep e2,h1 _ _ e3⟩,hb.size⟩
 obtain⟨⟨q1,q2⟩,_⟩:=a8O hi hE hI
 refine⟨_,q1,q2,?_⟩
 have hx:Ext { G with st:=st' } w' { G with st:=λb o=>st' b o\/(b < w'.heap.size/\∃ i:Nat,([]:List Nat)[i]?=some b) } w':=⟨⟨[],by simp⟩,λk n h=>⟨n,h,g6U _,λ_=>rfl⟩,λk b x h=>.inl ⟨x,h⟩,λb o h=>.inl h,λb o h=>by
  rcases h with h|⟨_,i,h⟩
  ·exact .inl h
  ·simp at h,λ_ _ _=>rfl,λ_ _ _ _=>.inl rfl,rfl,g6U _,rfl,rfl,rfl,λb c t z h=>⟨c,z,h,rfl⟩⟩
 exact hx.prep hp
end Go.Pi

/- PI 16: one operation. -/
namespace Go.Pi
variable {P:Program} {tb:Tb} {gl:Nat->Option (List T)} {G:Gh} {w:World} {nt:Nat} {a:Act} {K:Act->World->Prop} {Q:Exit->Act->World->Prop} {o:Oper}
theorem a8Q {val:Value} {w':World} (h:(execOp a.eval o).run P w=.ok (.value val) w') (hK:K (a.put o.dst val) w'):o.wp P a w K Q:=by
 unfold Oper.wp
 rw[h]
 exact hK
theorem a8R {w':World} (h:(execOp a.eval o).run P w=.ok .skip w') (hK:K (a.put o.dst undef) w'):o.wp P a w K Q:=by
 unfold Oper.wp
 rw[h]
 exact hK
theorem a8S {f:FuncId} {args:Array Value} {w':World} {R:Value->World->Prop} (h:(execOp a.eval o).run P w=.ok (.enter f args) w') (hc:Calls P f args w' λe w''=>∃ v,e=.returned v/\R v w'') (hK:∀ v w'',R v w''->K (a.put o.dst v) w''):o.wp P a w K Q:=by
 unfold Oper.wp
 rw[h]
 refine hc.mono ?_
 rintro e w'' ⟨v,rfl,hr⟩
 exact hK v w'' hr
theorem a8T {x:Option Operand} {y:Option Opd} {fr:List PV} (h:a1X tb nt x=some y) (hf:FRep tb.fx G w nt a fr):a6H tb.fx G w (x.map a.eval) (y.map (Opd.ev fr)):=by
 cases x with
 |none=>simp [a1X] at h;subst h;trivial
 |some x =>
  simp only[a1X,g7E] at h
  obtain⟨z,hz,rfl⟩:=h
  exact a4H hz hf
theorem a8U {sg:Sg} {ow:Ow} (hi:Inv tb.fx gl G w sg ow) {t:TypeId} {n:Nat} {va vv:Value} {xa xv:PV} {sg':Sg} (hs:a2A P t=some n) (ha:PRep tb.fx G w va xa) (hv:PRep tb.fx G w vv xv) (h:storeP sg n xv xa=some sg') :
  ∃ w',(Instr.storeAt t va vv).run P w=.ok () w'/\Ext G w G w'/\Inv tb.fx gl G w' sg' ow:=by
 unfold storeP at h
 split at h
 ·rename_i id off
  split at h
  ·rename_i cs hsg
   split at h
   ·rename_i hc
    injection h with h
    subst h
    obtain⟨c1,c2,c3⟩:=hc
    cases ha with|lp _ _ b hb =>
    obtain⟨c,t',z,e1,e2,e3,e4⟩:=hi.blk id b cs hb hsg
    obtain⟨hz,_⟩:=e4
    obtain⟨d1,d2⟩:=a4M hv
    have hone:∀ u∈vv.cells.toList,u.oneCell'=true:=by
     intro u hu
     obtain⟨j,hj⟩:=g5Q hu
     have hj':vv.cells[j]?=some u:=by simpa using hj
     have hlt:j < (cellsP xv).length:=by rw[<-d1];exact(g4P.1 hj').1
     have hy:=g5M hlt
     have hp:=d2 j u _ hj' hy
     have ho:=g5A.1 c3 _ (g6K hy)
     generalize (cellsP xv)[j]=y at hp ho
     cases hp with
     |t ht=>cases ht <;> first|rfl|cases ho
     |agg=>cases ho
     |tup=>cases ho
     |_=>rfl
    have hlen:vv.cells.toList.length=n:=by rw[g4R,d1,c1]
    have hst:=a4C (P:=P) vv.cells.toList w b off 0 c t' z e1 (by omega) (λj _=>hz j) hone
    rw[g6R] at hst
    have hsz:vv.cells.size=n:=by rw[d1,c1]
    have hb':off+vv.cells.toList.length<=c.size:=by omega
    have hgetc:∀ (j:Nat) (u:Value) (y:PV),(a3U c off vv.cells.toList)[j]?=some u->(setRange cs off (cellsP xv))[j]?=some y->PRep tb.fx G w u y:=by
     intro j u y hu hy
     rw[a3W c off vv.cells.toList hb' j] at hu
     rw[a6W cs off (cellsP xv) (by omega) j] at hy
     rw[hlen] at hu
     rw[c1] at hy
     split at hu
     ·rename_i hj
      rw[if_pos hj] at hy
      exact d2 (j - off) u y (by simpa using hu) hy
     ·rename_i hj
      rw[if_neg hj] at hy
      exact e3 j u y hu hy
    by_cases hne:cs=[]
    ·subst hne
     have hn0:n=0:=by simp at c2;omega
     have hnil:vv.cells.toList=[]:=g5G (by omega)
     have hnil2:cellsP xv=[]:=g5G (by omega)
     refine⟨w,?_,.refl _ _,?_⟩
     ·simp only[Instr.storeAt,Sem.run_bind,a5X,Result.andThen_ok,storeVar,a4U hs,hsz,ne_eq,not_true,if_false,hnil]
      rfl
     ·rw[hnil2]
      exact hi.giveUp hsg
    obtain⟨hE,hI⟩:=hi.storeLocal hb hsg hne e1 (a3U c off vv.cells.toList) (setRange cs off (cellsP xv)) (a3V _ _ _) (by rw[a6V,a3V];exact e2) hgetc
    refine⟨_,?_,hE,hI⟩
    simp only[Instr.storeAt,Sem.run_bind,a5X,Result.andThen_ok,storeVar,a4U hs,hsz,ne_eq,not_true,if_false,hst]
   ·cases h
  ·cases h
 ·cases h
theorem a8V {Gc:Gh} {w':World} {sg':Sg} {ow':Ow} (hI:Inv tb.fx gl Gc w' sg' ow') {u:Value} {id off len sz:Nat} {y:T} (hu:PRep tb.fx Gc w' u (.ls id off len sz)) (h:(a0J sg' sz id off len sz).map (.sl false)=some y):TRep (λb o=>Gc.st b o\/(b < w'.heap.size/\∃ i:Nat,Gc.mu[i]?=some b)) w' u y:=by
 ·simp only[g7E] at h
  obtain⟨es,hes,rfl⟩:=h
  have hes':=hes
  unfold a0J at hes'
  simp only[if_true] at hes'
  split at hes'
  ·rename_i cs hsg
   split at hes'
   ·rename_i hbd
    split at hes'
    case h_2=>cases hes'
    rename_i ts hts
    split at hes'
    ·cases hes'
    rename_i hagg
    injection hes' with hes'
    subst hes'
    have hcs:=a4N hts
    have hno:∀ x∈ts,x.isAgg=false:=λx hx=>by
     cases hq:x.isAgg with
     |false=>rfl
     |true=>exact absurd (List.any_eq_true.2 ⟨x,hx,hq⟩) hagg
    cases hu with|ls _ _ _ _ cap b ad hmu hcap ha =>
    obtain⟨c,t,z,e1,e2,e3,_⟩:=hI.blk id b cs hmu hsg
    have hlt:=a3Q e1
    have htl:ts.length=len * sz:=by
     have:=congrArg List.length hcs
     simp at this
     omega
    have hcl:(a0C sz len ts).length=len:=a6P _ _ _
    rcases ha with rfl|rfl
    ·have hnil:a0C sz 0 ts=[]:=rfl
     rw[hnil]
     exact .sl ad cap sz [] (λ_ _=>undef) (by simp) (by simp) (by simp) (by simp) (by simp) (by simp)
    ·rw[show Value.slice (some ⟨b,off,none⟩) len cap=Value.slice (some ⟨b,off,none⟩) (a0C sz len ts).length cap by rw[hcl]]
     refine TRep.ofRow (sz:=sz) (vs:=(c.toList.drop off).take (len * sz)) (a6Q sz len ts (by omega)) (a6R hno) (by omega) (a6S (by simp [htl];omega) htl λi v y hv hy=>?_) (λj v hv=>?_) (λj _=>.inr ⟨hlt,id,hmu⟩)
     ·rw[g5U,g5L] at hv
      split at hv
      ·rename_i hlt'
       have hy':cs[off+i]?=some (.t y):=by
        have:=congrArg (λl:List PV=>l[i]?) hcs
        simp only[g5U,g5L,if_pos hlt',g5P,hy,g7F] at this
        exact this
       exact(e3 (off+i) v (.t y) (by simpa using hv) hy').t_inv.mono (λ_ _ h=>.inl h) (λ_ _ _=>rfl)
      ·cases hv
     ·rw[g5U,g5L] at hv
      split at hv
      ·rw[cell_of_row w' b (off+j) c t z e1]
       simpa using hv
      ·cases hv
   ·cases hes'
  ·cases hes'
theorem a8W {Gc:Gh} {w':World} {sg':Sg} {ow':Ow} (hI:Inv tb.fx gl Gc w' sg' ow') {u:Value} {x:PV} {y:T} (hu:PRep tb.fx Gc w' u x) (h:ret1 sg' x=some y):TRep (λb o=>Gc.st b o\/(b < w'.heap.size/\∃ i:Nat,Gc.mu[i]?=some b)) w' u y:=by
 unfold ret1 at h
 split at h
 ·exact a8V hI hu h
 ·exact a8V hI hu.bf_ls h
 ·exact(a7K hu h).mono (λ_ _ h=>.inl h) (λ_ _ _=>rfl)
theorem a8X {Gc:Gh} {w':World} {sg':Sg} {ow':Ow} (hI:Inv tb.fx gl Gc w' sg' ow') {u:Value} {x:PV} {y:T} (hu:PRep tb.fx Gc w' u x) (h:retSl sg' x=some y):TRep (λb o=>Gc.st b o\/(b < w'.heap.size/\∃ i:Nat,Gc.mu[i]?=some b)) w' u y:=by
 unfold retSl at h
 split at h
 ·exact a8V hI hu h
 ·exact a8V hI hu.bf_ls h
 ·simp only[g7E] at h
  obtain⟨ts,hts,rfl⟩:=h
  obtain⟨cs,rfl,hl,hr⟩:=hu.aggP_inv
  obtain⟨h1,h2⟩:=a4E _ _ _ hts
  refine .agg cs ts (by omega) λi v y hv hy=>?_
  have hlt:i < cs.size:=(g4P.1 hv).1
  have hx:=g5M (l:=_) (i:=i) (show i < _ by rw[<-hl];exact hlt)
  exact a8W hI (hr i v _ hv hx) (h2 i _ y hx hy)
 ·exact(a7M hu h).mono (λ_ _ h=>.inl h) (λ_ _ _=>rfl)
end Go.Pi

/- PI 17: one operation of the model is one of the small language. -/
namespace Go.Pi
variable {P:Program} {tb:Tb} {gl:Nat->Option (List T)} {G:Gh} {w:World} {nt:Nat} {a:Act} {K:Act->World->Prop} {Q:Exit->Act->World->Prop} {o:Oper} {C:Cal} {dr:Bool} {s:S} {v:PV} {sg':Sg} {ow':Ow}
theorem a8Y {val:Value} {r:PV} (hi:Inv tb.fx gl G w s.sg s.ow) (hr:(execOp a.eval o).run P w=.ok (.value val) w) (hp:PRep tb.fx G w val r) (he:(r,s.sg,s.ow)=(v,sg',ow'))
  (hK:∀ val G' w',Ext G w G' w'->Inv tb.fx gl G' w' sg' ow'->PRep tb.fx G' w' val v->K (a.put o.dst val) w'):o.wp P a w K Q:=by
 injection he with e1 e2
 injection e2 with e2 e3
 subst e1 e2 e3
 exact a8Q hr (hK val G w (.refl _ _) hi hp)
theorem a8Z {x:Sem Value} {val:Value} {w':World} (h:x.run P w=.ok val w'):(do pure (Next.value (<-x)):Sem Next).run P w=.ok (.value val) w':=by
 simp only[Sem.run_bind,h,Result.andThen_ok,Sem.run_pure]
theorem a9A {x:Sem Unit} {w':World} (h:x.run P w=.ok () w'):(do x;pure Next.skip:Sem Next).run P w=.ok .skip w':=by
 simp only[Sem.run_bind,h,Result.andThen_ok,Sem.run_pure]
theorem a9B (hi:Inv tb.fx gl G w s.sg s.ow) (hf:FRep tb.fx G w nt a s.fr) {op:BinOp} {t yt:TypeId} {x y:Operand} (hop:o.op=.binOp op t x y yt) {q:O} (hq:a2J P tb nt op t x y=some q) (hstep:a1F C gl dr q s=some (v,sg',ow'))
  (hK:∀ val G' w',Ext G w G' w'->Inv tb.fx gl G' w' sg' ow'->PRep tb.fx G' w' val v->K (a.put o.dst val) w'):o.wp P a w K Q:=by
 have hex:∀ {val:Value},(do eqGuard op t x y (a.eval x) (a.eval y);binOp op t (a.eval x) (a.eval y):Sem Value).run P w=.ok val w->(execOp a.eval o).run P w=.ok (.value val) w:=λh=>by
  unfold execOp
  simp only[hop]
  exact a8Z h
 unfold a2J at hq
 split at hq
 ·rename_i xa xb hxa hxb
  have ra:=a4H hxa hf
  have rb:=a4H hxb hf
  have hbin:q=.bin op xa xb->o.wp P a w K Q:=by
   intro hq1
   subst hq1
   simp only[a1F,g7E] at hstep
   obtain⟨r,⟨r',hr',rfl⟩,he⟩:=hstep
   obtain⟨val,h1,h2⟩:=a5D (P:=P) t ra rb hr' x y
   exact a8Y hi (hex h1) h2 he hK
  have heqv:∀ (ng ag:Bool) (ks:List Nat),op=(if ng then .neq else .eql)->a2G P 20 t=some ks->a1Z P t=some ag->(ag=false->ks=[0])->(ag=true->P.eqGuardType P.depth t=false)->q=.eqv ng ag ks xa xb->o.wp P a w K Q:=by
   intro ng ag ks h1 h2 h3 h4 h5 hq1
   subst hq1
   simp only[a1F,g7E] at hstep
   obtain⟨r,⟨r',hr',rfl⟩,he⟩:=hstep
   exact a8Y hi (hex (a5S x y h1 h2 h3 h4 h5 ra rb hr')) (.tbool _) he hK
  cases hu:P.underlying t with
  |none =>
   rw[hu] at hq
   simp only[a2H,hu] at hq
   cases hq
  |some ds =>
   rw[hu] at hq
   cases ds
   case int k=>exact hbin (by injection hq with hq;exact hq.symm)
   case string=>exact hbin (by injection hq with hq;exact hq.symm)
   case bool =>
    simp only at hq
    split at hq
    ·injection hq with hq
     exact heqv false false [0] rfl (by simp [a2G,hu]) (by simp [a1Z,hu]) (λ_=>rfl) (by simp) hq.symm
    ·injection hq with hq
     exact heqv true false [0] rfl (by simp [a2G,hu]) (by simp [a1Z,hu]) (λ_=>rfl) (by simp) hq.symm
    ·cases hq
   case struct fs =>
    simp only at hq
    split at hq
    ·rename_i ks hks
     split at hq
     ·rename_i hg
      injection hq with hq
      exact heqv false true ks rfl hks (by simp [a1Z,hu]) (by simp) (λ_=>hg) hq.symm
     ·cases hq
    ·rename_i ks hks
     split at hq
     ·rename_i hg
      injection hq with hq
      exact heqv true true ks rfl hks (by simp [a1Z,hu]) (by simp) (λ_=>hg) hq.symm
     ·cases hq
    ·cases hq
   case array n el =>
    simp only at hq
    split at hq
    ·rename_i ks hks
     split at hq
     ·rename_i hg
      injection hq with hq
      exact heqv false true ks rfl hks (by simp [a1Z,hu]) (by simp) (λ_=>hg) hq.symm
     ·cases hq
    ·rename_i ks hks
     split at hq
     ·rename_i hg
      injection hq with hq
      exact heqv true true ks rfl hks (by simp [a1Z,hu]) (by simp) (λ_=>hg) hq.symm
     ·cases hq
    ·cases hq
   all_goals
    simp only at hq
    split at hq
    ·rename_i n m hn hm
     split at hq
     ·rename_i hnm
      subst hnm
      injection hq with hq
      subst hq
      obtain⟨c,rfl⟩:∃ c,y=.const c:=by
       unfold a2I at hm
       split at hm <;> first|exact⟨_,rfl⟩|cases hm
      simp only[a1F,g7E] at hstep
      obtain⟨r,⟨r',hr',rfl⟩,he⟩:=hstep
      exact a8Y hi (hex (a5T (P:=P) (ng:=false) x rfl hn hm ra hr')) (.tbool _) he hK
     ·cases hq
    ·rename_i n m hn hm
     split at hq
     ·rename_i hnm
      subst hnm
      injection hq with hq
      subst hq
      obtain⟨c,rfl⟩:∃ c,y=.const c:=by
       unfold a2I at hm
       split at hm <;> first|exact⟨_,rfl⟩|cases hm
      simp only[a1F,g7E] at hstep
      obtain⟨r,⟨r',hr',rfl⟩,he⟩:=hstep
      exact a8Y hi (hex (a5T (P:=P) (ng:=true) x rfl hn hm ra hr')) (.tbool _) he hK
     ·cases hq
    ·cases hq
 ·cases hq
theorem a9C {α:Type} {sz:Nat} (hsz:0 < sz):∀ (es:List (List α)),(∀ e∈es,e.length=sz)->∀ (k:Nat) (y:α),es.flatten[k]?=some y->∃ e,es[k / sz]?=some e/\e[k % sz]?=some y:=by
 intro es
 induction es with
 |nil=>intro _ k y h;simp at h
 |cons e r ih =>
  intro hall k y h
  have he:=hall e (by simp)
  rw[g5H] at h
  rcases g6X k e.length with hlt|hge
  ·rw[g5J hlt] at h
   have h1:k / sz=0:=Nat.div_eq_of_lt (by omega)
   have h2:k % sz=k:=Nat.mod_eq_of_lt (by omega)
   exact⟨e,by rw[h1];rfl,by rw[h2];exact h⟩
  ·rw[g5K hge] at h
   obtain⟨e',h1,h2⟩:=ih (λx hx=>hall x (by simp [hx])) _ y h
   rw[he] at h1 h2 hge
   have h3:k / sz=(k - sz) / sz+1:=Nat.div_eq_sub_div hsz hge
   have h4:k % sz=(k - sz) % sz:=Nat.mod_eq_sub_mod hge
   exact⟨e',by rw[h3,List.getElem?_cons_succ];exact h1,by rw[h4];exact h2⟩
theorem a9D {α:Type} {sz:Nat}:∀ (es:List (List α)),(∀ e∈es,e.length=sz)->es.flatten.length=es.length * sz:=by
 intro es
 induction es with
 |nil=>intro _;simp
 |cons e r ih =>
  intro hall
  rw[g5H,g5W,ih (λx hx=>hall x (by simp [hx])),hall e (by simp),g5X,g6Q]
  omega
theorem VRep.flat {st:Nat->Nat->Prop} {sz:Nat} {es:List (List T)} {vs:List Value} (h:VRep st w sz es vs) (hall:∀ e∈es,e.length=sz) (hsz:0 < sz) (k:Nat) (v:Value) (y:T) (hv:vs[k]?=some v) (hy:es.flatten[k]?=some y):TRep st w v y:=by
 obtain⟨e,h1,h2⟩:=a9C hsz es hall k y hy
 obtain⟨u,h3,h4⟩:=h.2 _ _ _ _ h1 h2
 rw[Nat.mul_comm,Nat.div_add_mod,hv] at h3
 injection h3 with h3
 subst h3
 exact h4
theorem a9E {fx:List (Nat×Nat)} {sg:Sg} {ow:Ow} (hi:Inv fx gl G w sg ow) {t u ty e:TypeId} {sz by_:Nat} {z:List T} {va vb:Value} {xa xb r:PV} {sg':Sg} (ht:P.underlying t=some (.slice e)) (hu:a7Y P u) (hs:a2A P e=some sz) (hby:a2B P e=some by_)
  (hz:a2D P e=some z) (hzl:z.length=sz) (hsz:0 < sz) (ha:PRep fx G w va xa) (hb:PRep fx G w vb xb) (h:a0S sg sz by_ xa xb=some (r,sg')) :
  ∃ v G' w',(Builtin.append_ #[t,u] ty #[va,vb]).run P w=.ok v w'/\Ext G w G' w'/\Inv fx gl G' w' sg' ow/\PRep fx G' w' v r:=by
 obtain⟨inf,zv,hinf,hzz,hzsz,_⟩:=a7A hz
 have hbytes:inf.bytes=by_:=by simp only[a2B,hinf,g7F,g7G] at hby;exact hby
 have hzs:zv.cells.size=sz:=by omega
 have hml:G.mu.length=sg.length:=hi.mul
 unfold a0S at h
 split at h
 ·cases h
 ·cases h
 ·rename_i e0 r0 hes
  split at h
  ·rename_i hc
   have hall:=a7T hc.1
   obtain⟨vs,g1,g2,g3⟩:=a7V (P:=P) hi hb hes hall hsz
   have hvl:vs.length=(e0::r0).length * sz:=g1.1
   have hfl:((e0::r0).flatten.map PV.t).length=(e0::r0).length * sz:=by rw[g5Y,a9D _ hall]
   have hnew:∀ (k:Nat) (v:Value) (y:PV),vs[k]?=some v->((e0::r0).flatten.map PV.t)[k]?=some y->PRep fx G w v y:=by
    intro k v y hv hy
    simp only[g5P,g7E] at hy
    obtain⟨q,hq,rfl⟩:=hy
    exact .t (g1.flat hall hsz k v q hv hq)
   have emp:∀ (ad:Option Addr),va=.slice ad 0 0->a0M ((e0::r0).length) by_=true ->
     ∃ v G' w',(Builtin.append_ #[t,u] ty #[va,vb]).run P w=.ok v w'/\Ext G w G' w'/\Inv fx gl G' w' (sg++[(false,((e0::r0).flatten).map .t)]) ow/\PRep fx G' w' v (.bf sg.length (e0::r0).length sz):=by
    intro ad hva hroom
    subst hva
    have hrun:=a8C (P:=P) (ty:=ty) (w:=w) (sLen:=0) (sCap:=0) (ad:=ad) (vo:=[]) ht hu hs hinf hzz g3 (λw' _=>by cases ad <;> simp [Builtin.firstCells,loadCells,loadCellsFrom]) (by simp) (by rw[hbytes];simpa using hroom)
    obtain⟨hE0,hI0⟩:=hi.drew
    have hge:=grownCap_ge w (0+(e0::r0).length) 0 e
    have hsize:(([]++vs).toArray++Builtin.zeroCells zv.cells (grownCap w (0+(e0::r0).length) 0 e - (0+(e0::r0).length))).size=grownCap w (0+(e0::r0).length) 0 e * sz:=by
     rw[Array.size_append,size_zeroCells,hzs,g6O,List.nil_append,hvl,<-g6Q]
     congr 1
     omega
    obtain⟨hE,hI⟩:=hI0.newLocal (([]++vs).toArray++Builtin.zeroCells zv.cells (grownCap w (0+(e0::r0).length) 0 e - (0+(e0::r0).length))) e ((e0::r0).flatten.map .t) (by
     rw[hsize,hfl]
     exact g6Y _ (by omega)) (λj v x hv hx=>by
     have hj:j < vs.length:=by rw[hvl,<-hfl];exact(g5O.1 hx).1
     rw[Array.getElem?_append_left (by simpa using hj)] at hv
     exact hE0.prep (hnew j v x (by simpa using hv) hx))
    refine⟨_,_,_,hrun,hE.drew_l hi,hI,?_⟩
    have:=PRep.bf (fx:=fx) (G:={ G with mu:=G.mu++[w.drew.heap.size] }) (w:=w.drew.alloc (.cells (([]++vs).toArray++Builtin.zeroCells zv.cells (grownCap w (0+(e0::r0).length) 0 e - (0+(e0::r0).length))) e)) sg.length (e0::r0).length sz (grownCap w (0+(e0::r0).length) 0 e) w.drew.heap.size (by rw[<-hml];exact a3S _ _) (by omega) ⟨_,_,_,heap_alloc_new w.drew _,Nat.le_of_eq hsize.symm⟩
    rw[g7A] at this ⊢
    exact this
   split at h
   ·-- an empty literal
    split at h
    ·rename_i hroom
     injection h with h
     injection h with h1 h2
     subst h1 h2
     cases ha with|lit b _ _ _ _ _ _=>exact emp (some ⟨b,0,none⟩) rfl hroom
    ·cases h
   ·-- nil
    split at h
    ·rename_i hroom
     injection h with h
     injection h with h1 h2
     subst h1 h2
     have htr:=ha.t_inv
     cases htr with|nsl=>exact emp none rfl hroom
    ·cases h
   ·-- a buffer
    rename_i id len sz'
    split at h
    ·rename_i cs hsg
     split at h
     ·rename_i hc2
      injection h with h
      injection h with h1 h2
      subst h1 h2
      obtain⟨rfl,c2,c3,c4⟩:=hc2
      cases ha with|bf _ _ _ cap b hmu hcap hcc =>
      have hne:cs≠[]:=λq=>by rw[q] at c2;simp at c2
      obtain⟨c,t',z',e1,e2,e3,e4,e5⟩:=hi.blk id b cs hmu hsg
      obtain⟨c1,t1,z1,q1,q2⟩:=hcc
      rw[e1] at q1
      injection q1 with q1
      injection q1 with qa qb qc
      subst qa qb qc
      have hlen':(cs.take (len * sz')).length=len * sz':=by rw[g6B];omega
      have hget:∀ (j:Nat) (x:PV),(cs.take (len * sz')++(e0::r0).flatten.map PV.t)[j]?=some x->(j < len * sz'/\cs[j]?=some x)\/(len * sz'<=j/\((e0::r0).flatten.map PV.t)[j - len * sz']?=some x):=by
       intro j x hx
       rcases g6X j (len * sz') with hj|hj
       ·rw[g5J (by omega),g5U] at hx
        rw[if_pos hj] at hx
        exact .inl ⟨hj,hx⟩
       ·rw[g5K (by omega),hlen'] at hx
        exact .inr ⟨hj,hx⟩
      by_cases hfit:len+(e0::r0).length<=cap
      ·-- in its place
       have hmul:(len+(e0::r0).length) * sz'<=cap * sz':=g6Y _ hfit
       rw[g6Q] at hmul
       have hbd:0+len * sz'+vs.length<=c.size:=by rw[hvl];omega
       have hrun:=a7Z (P:=P) (ty:=ty) ht hu hs g3 hfit e1 hbd (λj _=>e4 j) (g1.one hall hsz g2)
       have hgc:=a3W c (0+len * sz') vs hbd
       obtain⟨hE,hI⟩:=hi.takeOver hmu hsg hne e1 (a3U c (0+len * sz') vs) (cs.take (len * sz')++(e0::r0).flatten.map PV.t) (a3V _ _ _) (by rw[a3V,g5W,hlen',hfl];omega) (λj v x hv hx=>by
        rw[hgc] at hv
        rcases hget j x hx with⟨k1,k2⟩|⟨k1,k2⟩
        ·rw[if_neg (by omega)] at hv
         exact e3 j v x hv k2
        ·have hjl:=(g5O.1 k2).1
         rw[hfl] at hjl
         rw[if_pos (by omega)] at hv
         exact hnew _ v x (by rw[g7A] at hv;exact hv) k2)
       refine⟨_,_,_,hrun,hE,hI,?_⟩
       refine .bf _ _ _ cap b (by simp only;rw[<-hml];exact a3S _ _) hfit ⟨_,_,_,a3Y w b _ (a3Q e1),by rw[a3V];exact q2⟩
      ·-- it moves
       have hvo:(c.toList.take (len * sz')).length=len * sz':=by rw[g6B,g4R];omega
       have hrun:=a8C (P:=P) (ty:=ty) (w:=w) (sLen:=len) (sCap:=cap) (ad:=some ⟨b,0,none⟩) (vo:=c.toList.take (len * sz')) ht hu hs hinf hzz g3 (λw' hw=>by
        refine run_firstCells_some w' sz' len ⟨b,0,none⟩ len cap _ hvo (λj v hj=>?_)
        rw[hw,a4W,g7A,cell_of_row w b j c t' z' e1]
        rw[g5U] at hj
        split at hj
        ·simpa using hj
        ·cases hj) (by omega) (by rw[hbytes];exact c4)
       obtain⟨hE0,hI0⟩:=hi.drew
       have hge:=grownCap_ge w (len+(e0::r0).length) cap e
       have hsize:((c.toList.take (len * sz')++vs).toArray++Builtin.zeroCells zv.cells (grownCap w (len+(e0::r0).length) cap e - (len+(e0::r0).length))).size=grownCap w (len+(e0::r0).length) cap e * sz':=by
        rw[Array.size_append,size_zeroCells,hzs,g6O,g5W,hvo,hvl,<-g6Q,<-g6Q]
        congr 1
        omega
       obtain⟨hE,hI⟩:=(hI0.giveUp hsg).newLocal ((c.toList.take (len * sz')++vs).toArray++Builtin.zeroCells zv.cells (grownCap w (len+(e0::r0).length) cap e - (len+(e0::r0).length))) e (cs.take (len * sz')++(e0::r0).flatten.map PV.t) (by
        rw[hsize,g5W,hlen',hfl,<-g6Q]
        exact g6Y _ (by omega)) (λj v x hv hx=>by
        have hjl:j < len * sz'+vs.length:=by
         have:=(g5O.1 hx).1
         rw[g5W,hlen',hfl] at this
         rw[hvl];exact this
        rw[Array.getElem?_append_left (by rw[g6O,g5W,hvo];exact hjl)] at hv
        rw[g5V] at hv
        rcases hget j x hx with⟨k1,k2⟩|⟨k1,k2⟩
        ·rw[g5J (by omega),g5U,if_pos k1] at hv
         exact hE0.prep (e3 j v x (by simpa using hv) k2)
        ·rw[g5K (by omega),hvo] at hv
         exact hE0.prep (hnew _ v x hv k2))
       refine⟨_,_,_,hrun,hE.drew_l hi,hI,?_⟩
       have:=PRep.bf (fx:=fx) (G:={ G with mu:=G.mu++[w.drew.heap.size] }) (w:=w.drew.alloc (.cells ((c.toList.take (len * sz')++vs).toArray++Builtin.zeroCells zv.cells (grownCap w (len+(e0::r0).length) cap e - (len+(e0::r0).length))) e)) sg.length (len+(e0::r0).length) sz' (grownCap w (len+(e0::r0).length) cap e) w.drew.heap.size (by rw[<-hml];exact a3S _ _) (by omega) ⟨_,_,_,heap_alloc_new w.drew _,Nat.le_of_eq hsize.symm⟩
       exact this
     ·cases h
    ·cases h
   ·cases h
  ·cases h
inductive KTy:TypeDesc->Nat->Prop where
 |bool:KTy .bool 0
 |int (k:IntKind):KTy (.int k) 1
 |str:KTy .string 2
theorem a9F {kt:TypeId} {kd:Nat} (h:a2E P kt=some kd):∃ D,P.underlying kt=some D/\KTy D kd:=by
 unfold a2E at h
 split at h
 ·rename_i hu;injection h with h;subst h;exact⟨_,hu,.bool⟩
 ·rename_i k hu;injection h with h;subst h;exact⟨_,hu,.int k⟩
 ·rename_i hu;injection h with h;subst h;exact⟨_,hu,.str⟩
 ·cases h
theorem a9G {kt:TypeId} {D:TypeDesc} {kd:Nat} (hu:P.underlying kt=some D) (hD:KTy D kd) (e:Bool) (k:Value):(Instr.checkKey e 10000 kt k).run P w=.ok () w:=by
 unfold Instr.checkKey
 simp only[Sem.run_bind,run_underlying hu,Result.andThen]
 cases hD <;> rfl
theorem a9H (a b:ByteArray):(a == b)=(a.data.toList == b.data.toList):=by
 rw[Bool.eq_iff_iff,MapKept.bytes_beq,beq_iff_eq]
 constructor
 ·intro h;rw[h]
 ·intro h
  obtain⟨⟨x⟩⟩:=a
  obtain⟨⟨y⟩⟩:=b
  simp only at h
  rw[h]
theorem a9I {st:Nat->Nat->Prop} {D:TypeDesc} {kd:Nat} (hD:KTy D kd) {v u:Value} {x y:T} (hv:TRep st w v x) (hu:TRep st w u y) {b:Bool} (h:eq1 kd x y=some b):Instr.sameNow D v u=some b/\(b=true->Instr.sameBits 10000 u v=true/\Instr.sameBits 10000 v u=true):=by
 unfold eq1 at h
 split at h
 ·cases hv;cases hu;cases hD
  injection h with h
  subst h
  exact⟨rfl,λh=>by simp only[beq_iff_eq] at h;subst h;simp [Instr.sameBits]⟩
 ·cases hv;cases hu;cases hD
  split at h
  ·rename_i hk
   subst hk
   injection h with h
   subst h
   exact⟨by simp [Instr.sameNow],λh=>by simp only[beq_iff_eq] at h;subst h;simp [Instr.sameBits]⟩
  ·cases h
 ·cases hv with|str s =>
  cases hu with|str s' =>
  cases hD
  injection h with h
  rw[<-a9H] at h
  subst h
  exact⟨rfl,λh=>by have:=(MapKept.bytes_beq _ _).1 h;subst this;simp [Instr.sameBits,MapKept.bytes_beq]⟩
 ·cases h
theorem a9J {st:Nat->Nat->Prop} {D:TypeDesc} {kd:Nat} (hD:KTy D kd) {kv:Value} {kt:T} (hk:TRep st w kv kt) (vt:T):∀ (es:List MapEntry) (cs:List PV) (i:Nat),es.length=cs.length ->
  (∀ (j:Nat) (e:MapEntry) (x:PV),es[j]?=some e->cs[j]?=some x->∃ k v,x=.tup [.t k,.t v]/\TRep st w e.key k/\TRep st w e.val v)->∀ r,a0T kd kt cs=some r ->
  (r=none/\Instr.findNow D kv es i=some none/\a0U kd kt vt cs=cs++[.tup [.t kt,.t vt]]/\a0V kd kt cs=cs) \/
  (∃ j v e,r=some v/\Instr.findNow D kv es i=some (some (i+j,e.val))/\es[j]?=some e/\TRep st w e.val v/\Instr.sameBits 10000 e.key kv=true/\a0U kd kt vt cs=cs.set j (.tup [.t kt,.t vt])/\a0V kd kt cs=cs.eraseIdx j):=by
 intro es
 induction es with
 |nil =>
  intro cs i hl _ r h
  have:cs=[]:=g5G hl.symm
  subst this
  simp only[a0T,g7G] at h
  exact .inl ⟨h.symm,rfl,rfl,rfl⟩
 |cons e es ih =>
  intro cs i hl hr r h
  cases cs with
  |nil=>simp at hl
  |cons x cs =>
   obtain⟨k,v,rfl,h1,h2⟩:=hr 0 e x rfl rfl
   simp only[a0T] at h
   cases he:eq1 kd kt k with
   |none=>rw[he] at h;cases h
   |some b =>
    obtain⟨q1,q2⟩:=a9I hD hk h1 he
    rw[he] at h
    cases b with
    |true =>
     simp only[g7G] at h
     exact .inr ⟨0,v,e,h.symm,by simp [Instr.findNow,q1],rfl,h2,(q2 rfl).1,by simp [a0U,he],by simp [a0V,he]⟩
    |false =>
     simp only at h
     rcases ih cs (i+1) (by simpa using hl) (λj e x he hx=>hr (j+1) e x (by simpa using he) (by simpa using hx)) r h with⟨p1,p2,p3,p4⟩|⟨j,v',e',p1,p2,p3,p4,p5,p6,p7⟩
     ·exact .inl ⟨p1,by simp [Instr.findNow,q1,p2],by simp [a0U,he,p3],by simp [a0V,he,p4]⟩
     ·exact .inr ⟨j+1,v',e',p1,by simp [Instr.findNow,q1,p2];omega,by simpa using p3,p4,p5,by simp [a0U,he,p6],by simp [a0V,he,p7]⟩
theorem a9K {t:TypeId} {z:T} (h:tyZ P t=some z) (w:World):∃ v,(zeroValue t).run P w=.ok v w/\∀ (st:Nat->Nat->Prop) (w':World),TRep st w' v z:=by
 unfold tyZ at h
 split at h
 ·rename_i i hi
  split at h
  ·rename_i cs hz
   simp only[g7E] at h
   obtain⟨l,hl,rfl⟩:=h
   obtain⟨h1,h2⟩:=a6Z hl
   exact⟨_,a7B hi hz w,λst w'=>.agg cs l (by simpa using h1) λi v x hv hx=>a4D (h2 i v x (by simpa using hv) hx)⟩
  ·rename_i v hno hz
   exact⟨v,a7B hi hz w,λst w'=>a4D h⟩
  ·cases h
 ·cases h
theorem a9L {fx:List (Nat×Nat)} {v:Value} {id:Nat} (h:PRep fx G w v (.mp id)):∃ b,v=.map (some b)/\G.mu[id]?=some b:=by
 cases h with|mp _ b hb=>exact⟨b,rfl,hb⟩
theorem a9M {fx:List (Nat×Nat)} {sg:Sg} {ow:Ow} (hi:Inv fx gl G w sg ow) {t kt el:TypeId} {kd:Nat} {z:T} {ck:Bool} {va vk:Value} {xa xk r:PV} (ht:P.underlying t=some (.map kt el)) (hkd:a2E P kt=some kd) (hz:tyZ P el=some z) (ha:PRep fx G w va xa) (hk:PRep fx G w vk xk) (h:a0W sg ck kd z xa xk=some r) :
  ∃ v,(Instr.lookup t va vk ck).run P w=.ok v w/\PRep fx G w v r:=by
 obtain⟨D,hu,hD⟩:=a9F hkd
 obtain⟨zv,hzv,hzr⟩:=a9K hz w
 unfold a0W at h
 split at h
 ·rename_i id k
  obtain⟨b,rfl,hb⟩:=a9L ha
  split at h
  ·rename_i cs hsg
   simp only[g7E] at h
   obtain⟨q,hq,rfl⟩:=h
   obtain⟨es,clk,e1,⟨e2,e3⟩,_⟩:=hi.mps id b cs hb hsg
   have hgo:=MapKept.run_getObj_map (P:=P) e1
   have hck:=a9G (P:=P) (w:=w) hu hD es.isEmpty vk
   have hfin:∀ (val:Value) (x:T) (ok:Bool),TRep G.st w val x->PRep fx G w (if ck=true then .tuple #[val,.bool ok] else val) (if ck=true then .tup [.t x,.t (.bool ok)] else .t x):=by
    intro val x ok hx
    cases ck with
    |false=>exact .t hx
    |true =>
     refine .tup #[val,.bool ok] _ rfl λi v y hv hy=>?_
     match i with
     |0=>simp at hv hy;subst hv hy;exact .t hx
     |1=>simp at hv hy;subst hv hy;exact .tbool _
     |n+2=>simp at hv
   rcases a9J hD hk.t_inv z es.toList cs 0 (by simpa using e2) (λj e x he hx=>e3 j e x (by simpa using he) hx) q hq with⟨rfl,p2,_,_⟩|⟨j,v,e,rfl,p2,_,p4,_,_,_⟩
   ·refine⟨_,?_,hfin zv z false (hzr _ _)⟩
    simp only[Instr.lookup,Sem.run_bind,run_underlying ht,Result.andThen_ok,hgo,hck,Sem.run_pure,MapKept.run_findKey hu p2,hzv]
   ·refine⟨_,?_,hfin e.val v true p4⟩
    simp only[Instr.lookup,Sem.run_bind,run_underlying ht,Result.andThen_ok,hgo,hck,Sem.run_pure,MapKept.run_findKey hu p2]
  ·cases h
 ·cases h
theorem a9N {fx:List (Nat×Nat)} {sg:Sg} {ow:Ow} (hi:Inv fx gl G w sg ow) {t kt el:TypeId} {kd:Nat} {va vk vv:Value} {xa xk xv:PV} {sg':Sg} (ht:P.underlying t=some (.map kt el)) (hkd:a2E P kt=some kd) (ha:PRep fx G w va xa) (hk:PRep fx G w vk xk) (hv:PRep fx G w vv xv) (h:a0X sg kd xa xk xv=some sg') :
  ∃ w',(Instr.mapUpdate t va vk vv).run P w=.ok () w'/\Ext G w G w'/\Inv fx gl G w' sg' ow:=by
 obtain⟨D,hu,hD⟩:=a9F hkd
 unfold a0X at h
 split at h
 ·rename_i id k
  obtain⟨b,rfl,hb⟩:=a9L ha
  split at h
  ·rename_i cs x hsg hx
   simp only[g7E] at h
   obtain⟨q,hq,rfl⟩:=h
   obtain⟨es,clk,e1,⟨e2,e3⟩,_⟩:=hi.mps id b cs hb hsg
   have hgo:=MapKept.run_getObj_map (P:=P) e1
   have hck:=a9G (P:=P) (w:=w) hu hD false vk
   have hxr:=a7M hv hx
   rcases a9J hD hk.t_inv x es.toList cs 0 (by simpa using e2) (λj e x he hx=>e3 j e x (by simpa using he) hx) q hq with⟨rfl,p2,p3,_⟩|⟨j,v,e,rfl,p2,p3,p4,p5,p6,_⟩
   ·obtain⟨hE,hI⟩:=hi.setMap hb hsg e1 (es.push { key:=vk,val:=vv,born:=clk }) (clk+1) (a0U kd k x cs) (by
     rw[p3]
     refine⟨by simp [e2],λj e y he hy=>?_⟩
     rw[Array.getElem?_push] at he
     rcases a3R _ _ _ _ hy with hy'|⟨hy',rfl⟩
     ·have hlt:=(g5O.1 hy').1
      rw[if_neg (by omega)] at he
      exact e3 j e y he hy'
     ·rw[if_pos (by omega)] at he
      injection he with he
      subst he
      exact⟨k,x,rfl,hk.t_inv,hxr⟩)
    refine⟨_,?_,hE,hI⟩
    simp only[Instr.mapUpdate,Sem.run_bind,run_underlying ht,Result.andThen_ok,hgo,hck,MapKept.run_findKey hu p2,MapKept.run_setObj_map _ e1]
    rfl
   ·have hj:es[j]?=some e:=by simpa using p3
    have hkeep:(Instr.keyThatStays (((es[0+j]?).map (·.key)).getD vk) vk).run P w=.ok vk w:=by
     rw[g7A,hj]
     simp [Instr.keyThatStays,p5]
    obtain⟨hE,hI⟩:=hi.setMap hb hsg e1 (es.modify (0+j) λe=>{ e with key:=vk,val:=vv }) clk (a0U kd k x cs) (by
     rw[p6,g7A]
     refine⟨by simp [e2],λi e' y he hy=>?_⟩
     rw[Array.getElem?_modify] at he
     by_cases hij:j=i
     ·subst hij
      rw[if_pos rfl,hj] at he
      have hjl:j < cs.length:=by rw[<-e2];exact(g4P.1 hj).1
      rw[g5T hjl] at hy
      injection hy with hy
      subst hy
      simp only[g7F,g7G] at he
      subst he
      exact⟨k,x,rfl,hk.t_inv,hxr⟩
     ·rw[if_neg hij] at he
      rw[g5S hij] at hy
      exact e3 i e' y he hy)
    refine⟨_,?_,hE,hI⟩
    simp only[Instr.mapUpdate,Sem.run_bind,run_underlying ht,Result.andThen_ok,hgo,hck,MapKept.run_findKey hu p2,hkeep,MapKept.run_setObj_map _ e1]
    rfl
  ·cases h
 ·cases h
theorem a9O {st:Nat->Nat->Prop} {es:Array MapEntry} {cs:List PV} (h:a1O st w es cs) (j:Nat):a1O st w (es.eraseIdxIfInBounds j) (cs.eraseIdx j):=by
 have hl:(es.eraseIdxIfInBounds j).toList=es.toList.eraseIdx j:=by
  unfold Array.eraseIdxIfInBounds
  split
  ·simp only[Array.toList_eraseIdx]
  ·rename_i hn
   rw[List.eraseIdx_of_length_le (by simpa using hn)]
 refine⟨?_,λi e x he hx=>?_⟩
 ·rw[<-g4R,hl,List.length_eraseIdx,List.length_eraseIdx,g4R,h.1]
 ·have he':(es.toList.eraseIdx j)[i]?=some e:=by rw[<-hl,Array.getElem?_toList];exact he
  rw[List.getElem?_eraseIdx] at he' hx
  split at he'
  ·rename_i hij
   rw[if_pos hij] at hx
   exact h.2 i e x (by simpa using he') hx
  ·rename_i hij
   rw[if_neg hij] at hx
   exact h.2 (i+1) e x (by simpa using he') hx
theorem a9P {fx:List (Nat×Nat)} {sg:Sg} {ow:Ow} (hi:Inv fx gl G w sg ow) {t kt el ty:TypeId} {ts:Array TypeId} {kd:Nat} {va vk:Value} {xa xk:PV} {sg':Sg} (hts:ts[0]?=some t) (ht:P.underlying t=some (.map kt el)) (hkd:a2E P kt=some kd) (ha:PRep fx G w va xa) (hk:PRep fx G w vk xk) (h:a0Y sg kd xa xk=some sg') :
  ∃ w',(Builtin.delete_ ts ty #[va,vk]).run P w=.ok (.tuple #[]) w'/\Ext G w G w'/\Inv fx gl G w' sg' ow:=by
 obtain⟨D,hu,hD⟩:=a9F hkd
 have e01:(#[va,vk]:Array Value)[0]?=some va:=rfl
 have e02:(#[va,vk]:Array Value)[1]?=some vk:=rfl
 unfold a0Y at h
 split at h
 ·rename_i id k
  obtain⟨b,rfl,hb⟩:=a9L ha
  split at h
  ·rename_i cs hsg
   simp only[g7E] at h
   obtain⟨q,hq,rfl⟩:=h
   obtain⟨es,clk,e1,hm,_⟩:=hi.mps id b cs hb hsg
   obtain⟨e2,e3⟩:=hm
   have hgo:=MapKept.run_getObj_map (P:=P) e1
   have hck:=a9G (P:=P) (w:=w) hu hD es.isEmpty vk
   rcases a9J hD hk.t_inv .nptr es.toList cs 0 (by simpa using e2) (λj e x he hx=>e3 j e x (by simpa using he) hx) q hq with⟨rfl,p2,_,p4⟩|⟨j,v,e,rfl,p2,p3,_,_,_,p7⟩
   ·obtain⟨hE,hI⟩:=hi.setMap hb hsg e1 es clk (a0V kd k cs) (by rw[p4];exact⟨e2,e3⟩)
    refine⟨_,?_,hE,hI⟩
    simp only[Builtin.delete_,hts,e01,e02,Sem.run_bind,run_underlying ht,Result.andThen_ok,hgo,hck,MapKept.run_findKey hu p2,MapKept.run_setObj_map _ e1,Sem.run_pure]
    rfl
   ·obtain⟨hE,hI⟩:=hi.setMap hb hsg e1 (es.eraseIdxIfInBounds (0+j)) clk (a0V kd k cs) (by rw[p7,g7A];exact a9O ⟨e2,e3⟩ j)
    refine⟨_,?_,hE,hI⟩
    simp only[Builtin.delete_,hts,e01,e02,Sem.run_bind,run_underlying ht,Result.andThen_ok,hgo,hck,MapKept.run_findKey hu p2,MapKept.run_setObj_map _ e1,Sem.run_pure]
    rfl
  ·cases h
 ·cases h
theorem a9Q {fx:List (Nat×Nat)} {ts:Array TypeId} {ty:TypeId} {va vb:Value} {xa xb:PV} {r:T} (ha:PRep fx G w va xa) (hb:PRep fx G w vb xb) (h:mxT true xa xb=some r):∃ v,(Builtin.max_ ts ty #[va,vb]).run P w=.ok v w/\PRep fx G w v (.t r):=by
 unfold mxT at h
 split at h
 ·injection h with h
  subst h
  have:=ha.int_inv
  have:=hb.int_inv
  subst va vb
  exact⟨_,by simp [Builtin.max_,Builtin.max2],.tint _ _⟩
 ·cases h
theorem a9R {fx:List (Nat×Nat)} {ts:Array TypeId} {ty:TypeId} {va vb:Value} {xa xb:PV} {r:T} (ha:PRep fx G w va xa) (hb:PRep fx G w vb xb) (h:mxT false xa xb=some r):∃ v,(Builtin.min_ ts ty #[va,vb]).run P w=.ok v w/\PRep fx G w v (.t r):=by
 unfold mxT at h
 split at h
 ·injection h with h
  subst h
  have:=ha.int_inv
  have:=hb.int_inv
  subst va vb
  exact⟨_,by simp [Builtin.min_,Builtin.min2],.tint _ _⟩
 ·cases h
theorem a9S {t kt el:TypeId} {r:Option Value} (ht:P.underlying t=some (.map kt el)) (hr:r=none\/∃ k n,r=some (.int k n)):(Instr.makeMap t r).run P w=.ok (.map (some w.heap.size)) (w.alloc (.map #[] 0)):=by
 rcases hr with rfl|⟨k,n,rfl⟩
 ·simp [Instr.makeMap,Result.andThen]
 ·simp [Instr.makeMap,run_underlying ht,asInt,asIntOf,Result.andThen]
theorem a9T {c:Call} {xa xb:Opd} (has:a1Y tb nt c.args.toList=some [xa,xb]):∃ x y,c.args=#[x,y]/\a1W tb nt x=some xa/\a1W tb nt y=some xb:=by
 cases hl:c.args.toList with
 |nil=>rw[hl] at has;simp [a1Y] at has
 |cons x r =>
  rw[hl] at has
  simp only[a1Y] at has
  split at has
  ·rename_i y' ys h1 h2
   injection has with has
   injection has with e1 e2
   subst e1 e2
   cases r with
   |nil=>simp [a1Y] at h2
   |cons z r =>
    simp only[a1Y] at h2
    split at h2
    ·rename_i z' zs h3 h4
     injection h2 with h2
     injection h2 with e1 e2
     subst e1 e2
     cases r with
     |nil=>exact⟨x,z,by apply Array.ext';simpa using hl,h1,h3⟩
     |cons z2 r2=>simp only[a1Y] at h4;split at h4 <;> cases h4
    ·cases h2
  ·cases has
end Go.Pi
