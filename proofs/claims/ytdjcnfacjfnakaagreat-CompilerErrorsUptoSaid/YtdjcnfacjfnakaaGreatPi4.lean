/- PI 4: the steps of memory: new blocks, stores, owned slices that grow. -/
import Derived.Test.YtdjcnfacjfnakaaGreatPi3
import Derived.Laws.Rows
set_option linter.unusedSimpArgs false
set_option linter.unusedVariables false
namespace Go.Pi
variable {fx:List (Nat×Nat)} {gl:Nat->Option (List T)} {G:Gh} {w:World} {sg:Sg} {ow:Ow}
theorem a3Q {w:World} {b:Nat} {o:Obj} (h:w.heap[b]?=some o):b < w.heap.size:=(g4P.1 h).1
theorem Inv.mu_lt (h:Inv fx gl G w sg ow) {i b:Nat} (hi:G.mu[i]?=some b):b < w.heap.size:=by
 have hlt:i < sg.length:=by rw[<-h.mul];exact(g5O.1 hi).1
 rcases hs:sg[i]'hlt with⟨ro,cs⟩
 have hg:sg[i]?=some (ro,cs):=by rw[g5M hlt,hs]
 cases ro with
 |false =>
  obtain⟨c,t,z,hh,_⟩:=h.blk i b cs hi hg
  exact a3Q hh
 |true =>
  obtain⟨es,k,hh,_⟩:=h.mps i b cs hi hg
  exact a3Q hh
theorem Inv.tk_lt (h:Inv fx gl G w sg ow) {k b:Nat} {x:Nat×Nat×Nat} (hk:G.tk[k]?=some (b,x)):b < w.heap.size:=by
 obtain⟨o,sz,cap⟩:=x
 have hlt:k < ow.length:=by rw[<-h.tkl];exact(g5O.1 hk).1
 obtain⟨_,_,c,t,z,hh,_⟩:=h.tok k b o sz cap (ow[k]'hlt) hk (g5M hlt)
 exact a3Q hh
theorem Inv.same (h:Inv fx gl G w sg ow) {w':World} (hh:w'.heap=w.heap) (h1:w'.os=w.os) (h2:w'.tape=w.tape) (h3:w'.output=w.output):Ext G w G w'/\Inv fx gl G w' sg ow:=by
 have hc:∀ a,w'.cell? a=w.cell? a:=λa=>by unfold World.cell?;rw[hh]
 have he:Ext G w G w':=⟨⟨[],by simp⟩,λk n h=>⟨n,h,g6U _,λ_=>rfl⟩,λk b x h=>.inl ⟨x,h⟩,λ_ _ h=>h,λ_ _ h=>.inl h,λ_ _ _=>hc _,λ_ _ _ _=>.inl (by rw[hh]),rfl,by rw[hh];exact g6U _,h1,h2,h3,λb c t z hb=>⟨c,z,by rw[hh];exact hb,rfl⟩⟩
 refine⟨he,⟨h.fr,h.mul,h.muinj,?_,?_,h.tkl,?_,h.tkmu,h.tkinj,?_,?_,by rw[hh];exact h.bsz⟩⟩
 ·intro i b cs hi hs
  obtain⟨c,t,z,e1,e2,e3,e4⟩:=h.blk i b cs hi hs
  exact⟨c,t,z,by rw[hh];exact e1,e2,λj v x hv hx=>he.prep (e3 j v x hv hx),e4⟩
 ·intro i b cs hi hs
  obtain⟨es,k,e1,e2,e3⟩:=h.mps i b cs hi hs
  exact⟨es,k,by rw[hh];exact e1,he.mrep e2,e3⟩
 ·intro k b o sz cap n hk hn
  rw[hh]
  exact h.tok k b o sz cap n hk hn
 ·intro b o hs
  rw[hh]
  exact h.stlt b o hs
 ·intro g ts j x hg hx
  obtain⟨v,e1,e2,e3⟩:=h.glob g ts j x hg hx
  exact⟨v,(hc _).trans e1,he.trep e2,e3⟩
theorem Inv.drew (h:Inv fx gl G w sg ow):Ext G w G w.drew/\Inv fx gl G w.drew sg ow:=h.same rfl rfl rfl rfl
theorem a3R {α:Type} (l:List α) (x:α) (i:Nat) (y:α) (h:(l++[x])[i]?=some y):l[i]?=some y\/(i=l.length/\y=x):=by
 rcases g6X i l.length with hlt|hge
 ·rw[g5J hlt] at h;exact .inl h
 ·rw[g5K hge] at h
  rcases Nat.eq_zero_or_pos (i - l.length) with h0|h0
  ·rw[h0] at h
   simp at h
   exact .inr ⟨by omega,h.symm⟩
  ·rw[g5N (by simp;omega)] at h;cases h
theorem a3S {α:Type} (l:List α) (x:α):(l++[x])[l.length]?=some x:=by simp
theorem a3T {α:Type} (l:List α) (x:α) (i:Nat) (y:α) (h:l[i]?=some y):(l++[x])[i]?=some y:=by
 rw[g5J (g5O.1 h).1];exact h
theorem Inv.newLocal (h:Inv fx gl G w sg ow) (c:Array Value) (t:TypeId) (cs:List PV) (hl:cs.length<=c.size) (hr:∀ (j:Nat) (v:Value) (x:PV),c[j]?=some v->cs[j]?=some x->PRep fx G w v x) :
  Ext G w { G with mu:=G.mu++[w.heap.size] } (w.alloc (.cells c t))/\Inv fx gl { G with mu:=G.mu++[w.heap.size] } (w.alloc (.cells c t)) (sg++[(false,cs)]) ow:=by
 have hold:∀ b,b < w.heap.size->(w.alloc (.cells c t)).heap[b]?=w.heap[b]?:=λb hb=>heap_alloc_old w _ b hb
 have hcell:∀ b o,G.st b o->(w.alloc (.cells c t)).cell? ⟨b,o,none⟩=w.cell? ⟨b,o,none⟩:=λb o hs=>World.cell?_alloc_lt w _ _ (h.stlt b o hs)
 have he:Ext G w { G with mu:=G.mu++[w.heap.size] } (w.alloc (.cells c t)) :=
  ⟨⟨[w.heap.size],rfl,λb hb=>.inl (by simp at hb;omega)⟩,λk n h=>⟨n,h,g6U _,λ_=>rfl⟩,λk b x h=>.inl ⟨x,h⟩,λ_ _ h=>h,λ_ _ h=>.inl h,hcell,λb hb _ _=>.inl (hold b hb),rfl,by simp,rfl,rfl,rfl,λb c t z hb=>⟨c,z,by rw[hold b (a3Q hb)];exact hb,rfl⟩⟩
 refine⟨he,⟨h.fr,by simp [h.mul],?_,?_,?_,h.tkl,?_,?_,h.tkinj,?_,?_,g6V h.bsz (by simp)⟩⟩
 ·intro i j b hi hj
  rcases a3R _ _ _ _ hi with hi'|⟨hi',rfl⟩ <;> rcases a3R _ _ _ _ hj with hj'|⟨hj',hj2⟩
  ·rcases h.muinj i j b hi' hj' with q|q|q
   ·exact .inl q
   ·exact .inr (.inl (a3T _ _ _ _ q))
   ·exact .inr (.inr (a3T _ _ _ _ q))
  ·have:=h.mu_lt hi';omega
  ·have:=h.mu_lt hj';omega
  ·exact .inl (by omega)
 ·intro i b cs' hi hs
  rcases a3R _ _ _ _ hs with hs'|⟨hs',hs2⟩
  ·rcases a3R _ _ _ _ hi with hi'|⟨hi',rfl⟩
   ·obtain⟨c',t',z',e1,e2,e3,e4⟩:=h.blk i b cs' hi' hs'
    exact⟨c',t',z',by rw[hold b (a3Q e1)];exact e1,e2,λj v x hv hx=>he.prep (e3 j v x hv hx),e4⟩
   ·have:=(g5O.1 hs').1
    rw[h.mul] at hi';omega
  ·rcases a3R _ _ _ _ hi with hi'|⟨hi',rfl⟩
   ·have:=(g5O.1 hi').1
    rw[h.mul] at this;omega
   ·injection hs2 with e1 e2
    subst e2
    refine⟨c,t,(0,0),heap_alloc_new w _,hl,λj v x hv hx=>he.prep (hr j v x hv hx),λo _=>by simp,λ_ o hs=>?_⟩
    have:=h.stlt _ _ hs
    omega
 ·intro i b cs' hi hs
  rcases a3R _ _ _ _ hs with hs'|⟨_,hs2⟩
  ·rcases a3R _ _ _ _ hi with hi'|⟨hi',rfl⟩
   ·obtain⟨es,k,e1,e2,e3⟩:=h.mps i b cs' hi' hs'
    exact⟨es,k,by rw[hold b (a3Q e1)];exact e1,he.mrep e2,e3⟩
   ·have:=(g5O.1 hs').1
    rw[h.mul] at hi';omega
  ·injection hs2 with e1 e2
   cases e1
 ·intro k b o sz cap n hk hn
  obtain⟨h1,h2,c',t',z',e1,e2⟩:=h.tok k b o sz cap n hk hn
  exact⟨h1,h2,c',t',z',by rw[hold b (a3Q e1)];exact e1,e2⟩
 ·intro k b x i hk hi
  rcases a3R _ _ _ _ hi with hi'|⟨_,rfl⟩
  ·exact h.tkmu k b x i hk hi'
  ·have:=h.tk_lt hk;omega
 ·intro b o hs
  have:=h.stlt b o hs
  simp;omega
 ·intro g ts j x hg hx
  obtain⟨v,e1,e2,e3⟩:=h.glob g ts j x hg hx
  exact⟨v,(hcell _ _ e3).trans e1,he.trep e2,e3⟩
theorem Inv.newTree (h:Inv fx gl G w sg ow) (c:Array Value) (t:TypeId) (z:Nat×Nat) (lim:Nat) :
  Ext G w { G with st:=λb o=>G.st b o\/(b=w.heap.size/\o < lim) } (w.alloc (.cells c t z))/\Inv fx gl { G with st:=λb o=>G.st b o\/(b=w.heap.size/\o < lim) } (w.alloc (.cells c t z)) sg ow:=by
 have hold:∀ b,b < w.heap.size->(w.alloc (.cells c t z)).heap[b]?=w.heap[b]?:=λb hb=>heap_alloc_old w _ b hb
 have hcell:∀ b o,G.st b o->(w.alloc (.cells c t z)).cell? ⟨b,o,none⟩=w.cell? ⟨b,o,none⟩:=λb o hs=>World.cell?_alloc_lt w _ _ (h.stlt b o hs)
 have he:Ext G w { G with st:=λb o=>G.st b o\/(b=w.heap.size/\o < lim) } (w.alloc (.cells c t z)) :=
  ⟨⟨[],by simp⟩,λk n h=>⟨n,h,g6U _,λ_=>rfl⟩,λk b x h=>.inl ⟨x,h⟩,λ_ _ h=>.inl h,λb o hs=>by
   rcases hs with hs|⟨rfl,_⟩
   ·exact .inl hs
   ·exact .inr (.inl (g6U _)),hcell,λb hb _ _=>.inl (hold b hb),rfl,by simp,rfl,rfl,rfl,λb c t z hb=>⟨c,z,by rw[hold b (a3Q hb)];exact hb,rfl⟩⟩
 refine⟨he,⟨h.fr,h.mul,h.muinj,?_,?_,h.tkl,?_,h.tkmu,h.tkinj,?_,?_,g6V h.bsz (by simp)⟩⟩
 ·intro i b cs' hi hs
  obtain⟨c',t',z',e1,e2,e3,e4⟩:=h.blk i b cs' hi hs
  have hlt:=a3Q e1
  refine⟨c',t',z',by rw[hold b hlt];exact e1,e2,λj v x hv hx=>he.prep (e3 j v x hv hx),e4.1,λqq o hs=>?_⟩
  rcases hs with hs|⟨rfl,_⟩
  ·exact e4.2 qq o hs
  ·omega
 ·intro i b cs' hi hs
  obtain⟨es,k,e1,e2,e3⟩:=h.mps i b cs' hi hs
  have hlt:=a3Q e1
  refine⟨es,k,by rw[hold b hlt];exact e1,he.mrep e2,λo hs=>?_⟩
  rcases hs with hs|⟨rfl,_⟩
  ·exact e3 o hs
  ·omega
 ·intro k b o sz cap n hk hn
  obtain⟨h1,h2,c',t',z',e1,e2,e3,e4⟩:=h.tok k b o sz cap n hk hn
  have hlt:=a3Q e1
  refine⟨h1,h2,c',t',z',by rw[hold b hlt];exact e1,e2,e3,λj hj hs=>?_⟩
  rcases hs with hs|⟨rfl,_⟩
  ·exact e4 j hj hs
  ·omega
 ·intro b o hs
  rcases hs with hs|⟨rfl,_⟩
  ·have:=h.stlt b o hs
   simp;omega
  ·simp
 ·intro g ts j x hg hx
  obtain⟨v,e1,e2,e3⟩:=h.glob g ts j x hg hx
  exact⟨v,(hcell _ _ e3).trans e1,he.trep e2,.inl e3⟩
theorem Inv.newOwn (h:Inv fx gl G w sg ow) (c:Array Value) (t:TypeId) (z:Nat×Nat) (tg sz cap n:Nat) (hsz:0 < sz) (hn:n<=cap) (hcap:cap * sz<=c.size) (hz:Tz tg t n sz c.size z) :
  Ext G w ⟨G.mu,G.tk++[(w.heap.size,tg,sz,cap)],G.fr++[n],λb o=>G.st b o\/(b=w.heap.size/\o < n * sz),G.bs⟩ (w.alloc (.cells c t z)) /\
  Inv fx gl ⟨G.mu,G.tk++[(w.heap.size,tg,sz,cap)],G.fr++[n],λb o=>G.st b o\/(b=w.heap.size/\o < n * sz),G.bs⟩ (w.alloc (.cells c t z)) sg (ow++[n]):=by
 have hold:∀ b,b < w.heap.size->(w.alloc (.cells c t z)).heap[b]?=w.heap[b]?:=λb hb=>heap_alloc_old w _ b hb
 have hcell:∀ b o,G.st b o->(w.alloc (.cells c t z)).cell? ⟨b,o,none⟩=w.cell? ⟨b,o,none⟩:=λb o hs=>World.cell?_alloc_lt w _ _ (h.stlt b o hs)
 have hkl:G.tk.length=G.fr.length:=by rw[h.tkl,h.fr]
 have he:Ext G w ⟨G.mu,G.tk++[(w.heap.size,tg,sz,cap)],G.fr++[n],λb o=>G.st b o\/(b=w.heap.size/\o < n * sz),G.bs⟩ (w.alloc (.cells c t z)) :=
  ⟨⟨[],by simp⟩,λk m hk=>⟨m,a3T _ _ _ _ hk,g6U _,λ_=>by
   have hlt:k < G.tk.length:=by rw[hkl];exact(g5O.1 hk).1
   exact g5J hlt⟩,λk b x hk=>by
   rcases a3R _ _ _ _ hk with hk|⟨_,hk⟩
   ·exact .inl ⟨x,hk⟩
   ·injection hk with hk _
    exact .inr (by omega),λ_ _ h=>.inl h,λb o hs=>by
   rcases hs with hs|⟨rfl,_⟩
   ·exact .inl hs
   ·exact .inr (.inl (g6U _)),hcell,λb hb _ _=>.inl (hold b hb),rfl,by simp,rfl,rfl,rfl,λb c t z hb=>⟨c,z,by rw[hold b (a3Q hb)];exact hb,rfl⟩⟩
 refine⟨he,⟨by simp [h.fr],h.mul,h.muinj,?_,?_,by simp [h.tkl],?_,?_,?_,?_,?_,g6V h.bsz (by simp)⟩⟩
 ·intro i b cs' hi hs
  obtain⟨c',t',z',e1,e2,e3,e4⟩:=h.blk i b cs' hi hs
  have hlt:=a3Q e1
  refine⟨c',t',z',by rw[hold b hlt];exact e1,e2,λj v x hv hx=>he.prep (e3 j v x hv hx),e4.1,λqq o hs=>?_⟩
  rcases hs with hs|⟨rfl,_⟩
  ·exact e4.2 qq o hs
  ·omega
 ·intro i b cs' hi hs
  obtain⟨es,k,e1,e2,e3⟩:=h.mps i b cs' hi hs
  have hlt:=a3Q e1
  refine⟨es,k,by rw[hold b hlt];exact e1,he.mrep e2,λo hs=>?_⟩
  rcases hs with hs|⟨rfl,_⟩
  ·exact e3 o hs
  ·omega
 ·intro k b o sz' cap' m hk hm
  rcases a3R _ _ _ _ hk with hk'|⟨hk',hk2⟩
  ·rcases a3R _ _ _ _ hm with hm'|⟨hm',_⟩
   ·obtain⟨h1,h2,c',t',z',e1,e2,e3,e4⟩:=h.tok k b o sz' cap' m hk' hm'
    have hlt:=a3Q e1
    refine⟨h1,h2,c',t',z',by rw[hold b hlt];exact e1,e2,e3,λj hj hs=>?_⟩
    rcases hs with hs|⟨rfl,_⟩
    ·exact e4 j hj hs
    ·omega
   ·have:=(g5O.1 hk').1
    rw[h.tkl] at this;omega
  ·rcases a3R _ _ _ _ hm with hm'|⟨hm',rfl⟩
   ·have:=(g5O.1 hm').1
    rw[h.tkl] at hk';omega
   ·injection hk2 with e1 e2
    injection e2 with e2 e3
    injection e3 with e3 e4
    subst e1 e2 e3 e4
    refine⟨hsz,hn,c,t,z,heap_alloc_new w _,by omega,hz,λj hj hs=>?_⟩
    rcases hs with hs|⟨_,hs⟩
    ·have:=h.stlt _ _ hs;omega
    ·omega
 ·intro k b x i hk hi
  rcases a3R _ _ _ _ hk with hk|⟨_,hk⟩
  ·exact h.tkmu k b x i hk hi
  ·injection hk with hk _
   have:=h.mu_lt hi
   omega
 ·intro k k' b x y hk hk'
  rcases a3R _ _ _ _ hk with h1|⟨h1,h2⟩ <;> rcases a3R _ _ _ _ hk' with h3|⟨h3,h4⟩
  ·exact h.tkinj k k' b x y h1 h3
  ·injection h4 with h4 _
   have:=h.tk_lt h1;omega
  ·injection h2 with h2 _
   have:=h.tk_lt h3;omega
  ·omega
 ·intro b o hs
  rcases hs with hs|⟨rfl,_⟩
  ·have:=h.stlt b o hs
   simp;omega
  ·simp
 ·intro g ts j x hg hx
  obtain⟨v,e1,e2,e3⟩:=h.glob g ts j x hg hx
  exact⟨v,(hcell _ _ e3).trans e1,he.trep e2,.inl e3⟩
def a3U (c:Array Value):Nat->List Value->Array Value
 |_,[]=>c
 |o,v::r=>a3U (c.setIfInBounds o v) (o+1) r
theorem a3V (c:Array Value) (o:Nat) (vs:List Value):(a3U c o vs).size=c.size:=by
 induction vs generalizing c o with
 |nil=>rfl
 |cons v r ih=>simp [a3U,ih]
theorem a3W (c:Array Value) (o:Nat) (vs:List Value) (hb:o+vs.length<=c.size) (j:Nat) :
  (a3U c o vs)[j]?=if o<=j/\j < o+vs.length then vs[j - o]? else c[j]?:=by
 induction vs generalizing c o with
 |nil=>simp [a3U];intros;omega
 |cons v r ih =>
  simp only[g5X] at hb
  rw[a3U,ih (c.setIfInBounds o v) (o+1) (by simp;omega)]
  by_cases h1:o+1<=j/\j < o+1+r.length
  ·rw[if_pos h1,if_pos (by simp only[g5X];omega)]
   have:j - o=(j - (o+1))+1:=by omega
   rw[this,List.getElem?_cons_succ]
  ·rw[if_neg h1]
   by_cases h2:j=o
   ·subst h2
    rw[if_pos (by simp only[g5X];omega),Array.getElem?_setIfInBounds_self_of_lt (by omega)]
    simp
   ·rw[if_neg (by simp only[g5X];omega),g4Q (λe=>h2 e.symm)]
def a3X (w:World) (b:Nat) (o:Obj):World:={ w with heap:=w.heap.setIfInBounds b o }
theorem a3Y (w:World) (b:Nat) (o:Obj) (h:b < w.heap.size):(a3X w b o).heap[b]?=some o:=by
 simp [a3X,h]
theorem a3Z (w:World) (b:Nat) (o:Obj) (i:Nat) (h:i≠b):(a3X w b o).heap[i]?=w.heap[i]?:=by
 simp only[a3X]
 exact g4Q (λe=>h e.symm)
theorem a4A (w:World) (b o:Nat) (v:Value) (c:Array Value) (t:TypeId) (z:Nat×Nat) (h:w.heap[b]?=some (.cells c t z)) :
  w.setCell ⟨b,o,none⟩ v=a3X w b (.cells (c.setIfInBounds o v) t z):=by
 have hlt:=a3Q h
 simp only[World.setCell,a3X,World.mk.injEq,and_true]
 refine Array.ext_getElem? λi=>?_
 rw[Array.getElem?_modify]
 by_cases hi:b=i
 ·subst hi
  have hb:w.heap[b]=.cells c t z:=(g4P.1 h).2
  simp [hlt,hb]
 ·rw[if_neg hi,g4Q hi]
theorem a4B (w:World) (b:Nat) (o o':Obj):a3X (a3X w b o) b o'=a3X w b o':=by
 simp [a3X]
theorem a4C {P:Program} (vs:List Value):∀ (w:World) (b o i:Nat) (c:Array Value) (t:TypeId) (z:Nat×Nat),w.heap[b]?=some (.cells c t z)->o+i+vs.length<=c.size ->
  (∀ j,o+i<=j->j < c.size->¬(z.1<=j/\j < z.2))->(∀ v∈vs,v.oneCell'=true) ->
  (storeCells ⟨b,o,none⟩ vs i).run P w=.ok () (a3X w b (.cells (a3U c (o+i) vs) t z)):=by
 induction vs with
 |nil =>
  intro w b o i c t z hh _ _ _
  have hlt:=a3Q hh
  simp only[storeCells,Sem.run_pure,a3U]
  congr 1
  simp only[a3X]
  have:w.heap=w.heap.setIfInBounds b (.cells c t z):=by
   refine Array.ext_getElem? λj=>?_
   by_cases hj:b=j
   ·subst hj;rw[hh,Array.getElem?_setIfInBounds_self_of_lt hlt]
   ·rw[g4Q hj]
  rw[<-this]
 |cons v r ih =>
  intro w b o i c t z hh hb hz h1
  have hlt:=a3Q hh
  simp only[g5X] at hb
  have hadd:(Addr.add ⟨b,o,none⟩ i)=⟨b,o+i,none⟩:=by unfold Addr.add;split <;> simp_all
  have hcell:w.cell? ⟨b,o+i,none⟩=some (c[o+i]'(by omega)):=by rw[cell_of_row w b (o+i) c t z hh];exact g4O (by omega)
  have hfz:w.frozen? ⟨b,o+i,none⟩=false:=by
   simp only[World.frozen?,hh]
   have:=hz (o+i) (g6U _) (by omega)
   simp only[Bool.and_eq_false_iff,g7J]
   omega
  rw[storeCells]
  simp only[Sem.run_bind,hadd]
  rw[run_store P w _ v _ (h1 v (by simp)),hcell]
  simp only[hfz,g4T,if_false,Result.andThen_ok]
  rw[a4A w b (o+i) v c t z hh]
  rw[ih (a3X w b (.cells (c.setIfInBounds (o+i) v) t z)) b o (i+1) (c.setIfInBounds (o+i) v) t z (a3Y w b _ hlt) (by simp;omega) (λj hj hj2=>hz j (by omega) (by simpa using hj2)) (λu hu=>h1 u (by simp [hu]))]
  rw[a4B,a3U]
  rfl
theorem Inv.storeLocal (h:Inv fx gl G w sg ow) {i b:Nat} {cs:List PV} (hi:G.mu[i]?=some b) (hs:sg[i]?=some (false,cs)) (hne:cs≠[]) {c:Array Value} {t:TypeId} {z:Nat×Nat} (hb:w.heap[b]?=some (.cells c t z))
  (c':Array Value) (cs':List PV) (hsz:c'.size=c.size) (hl:cs'.length<=c'.size) (hr:∀ (j:Nat) (v:Value) (x:PV),c'[j]?=some v->cs'[j]?=some x->PRep fx G w v x) :
  Ext G w G (a3X w b (.cells c' t z))/\Inv fx gl G (a3X w b (.cells c' t z)) (sg.set i (false,cs')) ow:=by
 have hlt:=a3Q hb
 have hil:i < sg.length:=(g5O.1 hs).1
 obtain⟨c0,t0,z0,e1,e2,e3,e4⟩:=h.blk i b cs hi hs
 rw[hb] at e1
 injection e1 with e1
 injection e1 with ea eb ec
 subst ea eb ec
 obtain⟨hz,hst'⟩:=e4
 have hst:=hst' hne
 have hcell:∀ b' o,G.st b' o->(a3X w b (.cells c' t z)).cell? ⟨b',o,none⟩=w.cell? ⟨b',o,none⟩:=by
  intro b' o hs
  have hne:b'≠b:=λe=>hst o (e ▸ hs)
  unfold World.cell?
  rw[a3Z w b _ b' hne]
 have he:Ext G w G (a3X w b (.cells c' t z)):=⟨⟨[],by simp⟩,λk n h=>⟨n,h,g6U _,λ_=>rfl⟩,λk b x h=>.inl ⟨x,h⟩,λ_ _ h=>h,λ_ _ h=>.inl h,hcell,
  λb' hb' hmu _=>.inl (a3Z w b _ b' (λe=>hmu i (e ▸ hi))),rfl,by simp [a3X],rfl,rfl,rfl,λb' c1 t1 z1 hb1=>by
   by_cases hbb:b'=b
   ·subst hbb
    rw[hb] at hb1
    injection hb1 with hb1
    injection hb1 with ea eb ec
    subst ea eb ec
    exact⟨c',z,a3Y w b' _ hlt,hsz⟩
   ·exact⟨c1,z1,by rw[a3Z w b _ b' hbb];exact hb1,rfl⟩⟩
 have hdead:∀ (j:Nat) (cs'':List PV) (ro:Bool),j≠i->G.mu[j]?=some b->sg[j]?=some (ro,cs'')->ro=false/\cs''=[]:=by
  intro j cs'' ro hji hj hs'
  rcases h.muinj j i b hj hi with q|q|q
  ·exact absurd q hji
  ·rw[q] at hs'
   injection hs' with hs'
   injection hs' with q1 q2
   exact⟨q1.symm,q2.symm⟩
  ·rw[q] at hs
   injection hs with hs
   injection hs with _ q2
   exact absurd q2.symm hne
 refine⟨he,⟨h.fr,by simp [h.mul],?_,?_,?_,h.tkl,?_,h.tkmu,h.tkinj,?_,?_,by simpa [a3X] using h.bsz⟩⟩
 ·intro j k b' hj hk
  by_cases hjk:j=k
  ·exact .inl hjk
  ·rcases h.muinj j k b' hj hk with q|q|q
   ·exact .inl q
   ·by_cases hji:j=i
    ·subst hji
     rw[hs] at q
     injection q with q
     injection q with _ q
     exact absurd q hne
    ·exact .inr (.inl (by rw[g5S (λe=>hji e.symm)];exact q))
   ·by_cases hki:k=i
    ·subst hki
     rw[hs] at q
     injection q with q
     injection q with _ q
     exact absurd q hne
    ·exact .inr (.inr (by rw[g5S (λe=>hki e.symm)];exact q))
 ·intro j b' cs'' hj hs'
  by_cases hji:j=i
  ·subst hji
   rw[hi] at hj
   injection hj with hj
   subst hj
   rw[g5T hil] at hs'
   injection hs' with hs'
   injection hs' with e1 e2
   subst e2
   exact⟨c',t,z,a3Y w b _ hlt,hl,λj v x hv hx=>he.prep (hr j v x hv hx),by rw[hsz];exact hz,λ_=>hst⟩
  ·rw[g5S (λe=>hji e.symm)] at hs'
   by_cases hbb:b'=b
   ·subst hbb
    obtain⟨_,rfl⟩:=hdead j cs'' false hji hj hs'
    exact⟨c',t,z,a3Y w b' _ hlt,g7B _,λj v x hv hx=>by simp at hx,by rw[hsz];exact hz,λ_=>hst⟩
   ·obtain⟨c1,t1,z1,f1,f2,f3,f4⟩:=h.blk j b' cs'' hj hs'
    exact⟨c1,t1,z1,by rw[a3Z w b _ b' hbb];exact f1,f2,λj v x hv hx=>he.prep (f3 j v x hv hx),f4⟩
 ·intro j b' cs'' hj hs'
  by_cases hji:j=i
  ·subst hji
   rw[g5T hil] at hs'
   injection hs' with hs'
   injection hs' with e1 e2
   cases e1
  ·rw[g5S (λe=>hji e.symm)] at hs'
   obtain⟨es,k,f1,f2,f3⟩:=h.mps j b' cs'' hj hs'
   have hbb:b'≠b:=λe=>by
    have:=hdead j cs'' true hji (e ▸ hj) hs'
    exact absurd this.1 (by simp)
   exact⟨es,k,by rw[a3Z w b _ b' hbb];exact f1,he.mrep f2,f3⟩
 ·intro k b' o sz cap n hk hn
  have hne:b'≠b:=λe=>h.tkmu k b' _ i hk (e ▸ hi)
  rw[a3Z w b _ b' hne]
  exact h.tok k b' o sz cap n hk hn
 ·intro b' o hs
  have:=h.stlt b' o hs
  simpa [a3X] using this
 ·intro g ts j x hg hx
  obtain⟨v,e1,e2,e3⟩:=h.glob g ts j x hg hx
  exact⟨v,(hcell _ _ e3).trans e1,he.trep e2,e3⟩
theorem Inv.newMap (h:Inv fx gl G w sg ow) :
  Ext G w { G with mu:=G.mu++[w.heap.size] } (w.alloc (.map #[] 0))/\Inv fx gl { G with mu:=G.mu++[w.heap.size] } (w.alloc (.map #[] 0)) (sg++[(true,[])]) ow:=by
 have hold:∀ b,b < w.heap.size->(w.alloc (.map #[] 0)).heap[b]?=w.heap[b]?:=λb hb=>heap_alloc_old w _ b hb
 have hcell:∀ b o,G.st b o->(w.alloc (.map #[] 0)).cell? ⟨b,o,none⟩=w.cell? ⟨b,o,none⟩:=λb o hs=>World.cell?_alloc_lt w _ _ (h.stlt b o hs)
 have he:Ext G w { G with mu:=G.mu++[w.heap.size] } (w.alloc (.map #[] 0)) :=
  ⟨⟨[w.heap.size],rfl,λb hb=>.inl (by simp at hb;omega)⟩,λk n h=>⟨n,h,g6U _,λ_=>rfl⟩,λk b x h=>.inl ⟨x,h⟩,λ_ _ h=>h,λ_ _ h=>.inl h,hcell,λb hb _ _=>.inl (hold b hb),rfl,by simp,rfl,rfl,rfl,λb c t z hb=>⟨c,z,by rw[hold b (a3Q hb)];exact hb,rfl⟩⟩
 refine⟨he,⟨h.fr,by simp [h.mul],?_,?_,?_,h.tkl,?_,?_,h.tkinj,?_,?_,g6V h.bsz (by simp)⟩⟩
 ·intro i j b hi hj
  rcases a3R _ _ _ _ hi with hi'|⟨hi',rfl⟩ <;> rcases a3R _ _ _ _ hj with hj'|⟨hj',hj2⟩
  ·rcases h.muinj i j b hi' hj' with q|q|q
   ·exact .inl q
   ·exact .inr (.inl (a3T _ _ _ _ q))
   ·exact .inr (.inr (a3T _ _ _ _ q))
  ·have:=h.mu_lt hi';omega
  ·have:=h.mu_lt hj';omega
  ·exact .inl (by omega)
 ·intro i b cs' hi hs
  rcases a3R _ _ _ _ hs with hs'|⟨hs',hs2⟩
  ·rcases a3R _ _ _ _ hi with hi'|⟨hi',rfl⟩
   ·obtain⟨c',t',z',e1,e2,e3,e4⟩:=h.blk i b cs' hi' hs'
    exact⟨c',t',z',by rw[hold b (a3Q e1)];exact e1,e2,λj v x hv hx=>he.prep (e3 j v x hv hx),e4⟩
   ·have:=(g5O.1 hs').1
    rw[h.mul] at hi';omega
  ·injection hs2 with e1 e2
   cases e1
 ·intro i b cs' hi hs
  rcases a3R _ _ _ _ hs with hs'|⟨hs',hs2⟩
  ·rcases a3R _ _ _ _ hi with hi'|⟨hi',rfl⟩
   ·obtain⟨es,k,e1,e2,e3⟩:=h.mps i b cs' hi' hs'
    exact⟨es,k,by rw[hold b (a3Q e1)];exact e1,he.mrep e2,e3⟩
   ·have:=(g5O.1 hs').1
    rw[h.mul] at hi';omega
  ·rcases a3R _ _ _ _ hi with hi'|⟨hi',rfl⟩
   ·have:=(g5O.1 hi').1
    rw[h.mul] at this;omega
   ·injection hs2 with e1 e2
    subst e2
    refine⟨#[],0,heap_alloc_new w _,⟨rfl,λj e x hj=>by simp at hj⟩,λo hs=>?_⟩
    have:=h.stlt _ _ hs
    omega
 ·intro k b o sz cap n hk hn
  obtain⟨h1,h2,c',t',z',e1,e2⟩:=h.tok k b o sz cap n hk hn
  exact⟨h1,h2,c',t',z',by rw[hold b (a3Q e1)];exact e1,e2⟩
 ·intro k b x i hk hi
  rcases a3R _ _ _ _ hi with hi'|⟨_,rfl⟩
  ·exact h.tkmu k b x i hk hi'
  ·have:=h.tk_lt hk;omega
 ·intro b o hs
  have:=h.stlt b o hs
  simp;omega
 ·intro g ts j x hg hx
  obtain⟨v,e1,e2,e3⟩:=h.glob g ts j x hg hx
  exact⟨v,(hcell _ _ e3).trans e1,he.trep e2,e3⟩
theorem Inv.setMap (h:Inv fx gl G w sg ow) {i b:Nat} {cs:List PV} (hi:G.mu[i]?=some b) (hs:sg[i]?=some (true,cs)) {es:Array MapEntry} {k:Nat} (hb:w.heap[b]?=some (.map es k))
  (es':Array MapEntry) (k':Nat) (cs':List PV) (hm:a1O G.st w es' cs') :
  Ext G w G (a3X w b (.map es' k'))/\Inv fx gl G (a3X w b (.map es' k')) (sg.set i (true,cs')) ow:=by
 have hlt:=a3Q hb
 have hil:i < sg.length:=(g5O.1 hs).1
 obtain⟨es0,k0,e1,_,hst⟩:=h.mps i b cs hi hs
 have hcell:∀ b' o,G.st b' o->(a3X w b (.map es' k')).cell? ⟨b',o,none⟩=w.cell? ⟨b',o,none⟩:=by
  intro b' o hs
  have hne:b'≠b:=λe=>hst o (e ▸ hs)
  unfold World.cell?
  rw[a3Z w b _ b' hne]
 have he:Ext G w G (a3X w b (.map es' k')):=⟨⟨[],by simp⟩,λk n h=>⟨n,h,g6U _,λ_=>rfl⟩,λk b x h=>.inl ⟨x,h⟩,λ_ _ h=>h,λ_ _ h=>.inl h,hcell,
  λb' hb' hmu _=>.inl (a3Z w b _ b' (λe=>hmu i (e ▸ hi))),rfl,by simp [a3X],rfl,rfl,rfl,λb' c1 t1 z1 hb1=>by
   by_cases hbb:b'=b
   ·subst hbb
    rw[hb] at hb1
    injection hb1 with hb1
    cases hb1
   ·exact⟨c1,z1,by rw[a3Z w b _ b' hbb];exact hb1,rfl⟩⟩
 have hdead:∀ (j:Nat) (cs'':List PV) (ro:Bool),j≠i->G.mu[j]?=some b->sg[j]?=some (ro,cs'')->False:=by
  intro j cs'' ro hji hj hs'
  rcases h.muinj j i b hj hi with q|q|q
  ·exact hji q
  ·obtain⟨c1,t1,z1,f1,_⟩:=h.blk j b [] hj q
   rw[f1] at hb
   injection hb with hb
   cases hb
  ·rw[q] at hs
   injection hs with hs
   injection hs with q1 _
   cases q1
 refine⟨he,⟨h.fr,by simp [h.mul],?_,?_,?_,h.tkl,?_,h.tkmu,h.tkinj,?_,?_,by simpa [a3X] using h.bsz⟩⟩
 ·intro j k b' hj hk
  have hup:∀ j:Nat,sg[j]?=some (false,[])->(sg.set i (true,cs'))[j]?=some (false,[]):=by
   intro j q
   by_cases hji:j=i
   ·subst hji
    rw[hs] at q
    injection q with q
    injection q with q _
    cases q
   ·rw[g5S (λe=>hji e.symm)];exact q
  rcases h.muinj j k b' hj hk with q|q|q
  ·exact .inl q
  ·exact .inr (.inl (hup _ q))
  ·exact .inr (.inr (hup _ q))
 ·intro j b' cs'' hj hs'
  by_cases hji:j=i
  ·subst hji
   rw[g5T hil] at hs'
   injection hs' with hs'
   injection hs' with e1 e2
   cases e1
  ·rw[g5S (λe=>hji e.symm)] at hs'
   have hbb:b'≠b:=λe=>hdead j cs'' false hji (e ▸ hj) hs'
   obtain⟨c1,t1,z1,f1,f2,f3,f4⟩:=h.blk j b' cs'' hj hs'
   exact⟨c1,t1,z1,by rw[a3Z w b _ b' hbb];exact f1,f2,λj v x hv hx=>he.prep (f3 j v x hv hx),f4⟩
 ·intro j b' cs'' hj hs'
  by_cases hji:j=i
  ·subst hji
   rw[hi] at hj
   injection hj with hj
   subst hj
   rw[g5T hil] at hs'
   injection hs' with hs'
   injection hs' with e1 e2
   subst e2
   exact⟨es',k',a3Y w b _ hlt,he.mrep hm,hst⟩
  ·rw[g5S (λe=>hji e.symm)] at hs'
   obtain⟨es1,k1,f1,f2,f3⟩:=h.mps j b' cs'' hj hs'
   have hbb:b'≠b:=λe=>hdead j cs'' true hji (e ▸ hj) hs'
   exact⟨es1,k1,by rw[a3Z w b _ b' hbb];exact f1,he.mrep f2,f3⟩
 ·intro k b' o sz cap n hk hn
  have hne:b'≠b:=λe=>h.tkmu k b' _ i hk (e ▸ hi)
  rw[a3Z w b _ b' hne]
  exact h.tok k b' o sz cap n hk hn
 ·intro b' o hs
  have:=h.stlt b' o hs
  simpa [a3X] using this
 ·intro g ts j x hg hx
  obtain⟨v,e1,e2,e3⟩:=h.glob g ts j x hg hx
  exact⟨v,(hcell _ _ e3).trans e1,he.trep e2,e3⟩
theorem Inv.takeOver (h:Inv fx gl G w sg ow) {i b:Nat} {cs:List PV} (hi:G.mu[i]?=some b) (hs:sg[i]?=some (false,cs)) (hne:cs≠[]) {c:Array Value} {t:TypeId} {z:Nat×Nat} (hb:w.heap[b]?=some (.cells c t z))
  (c':Array Value) (cs':List PV) (hsz:c'.size=c.size) (hl:cs'.length<=c'.size) (hr:∀ (j:Nat) (v:Value) (x:PV),c'[j]?=some v->cs'[j]?=some x->PRep fx G w v x) :
  Ext G w { G with mu:=G.mu++[b] } (a3X w b (.cells c' t z))/\Inv fx gl { G with mu:=G.mu++[b] } (a3X w b (.cells c' t z)) (sg.set i (false,[])++[(false,cs')]) ow:=by
 obtain⟨he,hI⟩:=h.storeLocal hi hs hne hb c' cs' hsz hl hr
 have hil:i < sg.length:=(g5O.1 hs).1
 have hlt:=a3Q hb
 have hx:Ext G (a3X w b (.cells c' t z)) { G with mu:=G.mu++[b] } (a3X w b (.cells c' t z)) :=
  ⟨⟨[b],rfl,λb' hb'=>.inr ⟨i,by simp at hb';rw[hb'];exact hi⟩⟩,λk n h=>⟨n,h,g6U _,λ_=>rfl⟩,λk b x h=>.inl ⟨x,h⟩,λ_ _ h=>h,λ_ _ h=>.inl h,λ_ _ _=>rfl,λ_ _ _ _=>.inl rfl,rfl,g6U _,rfl,rfl,rfl,λb c t z h=>⟨c,z,h,rfl⟩⟩
 have hself:(sg.set i (false,cs'))[i]?=some (false,cs'):=g5T hil
 have hml:G.mu.length=sg.length:=h.mul
 have hget:∀ (j:Nat) (y:Bool×List PV),(sg.set i (false,[])++[(false,cs')])[j]?=some y->(j≠i/\j < sg.length/\(sg.set i (false,cs'))[j]?=some y)\/(j=i/\y=(false,[]))\/(j=sg.length/\y=(false,cs')):=by
  intro j y hj
  rcases a3R _ _ _ _ hj with hj'|⟨hj',rfl⟩
  ·by_cases hji:j=i
   ·subst hji
    rw[g5T hil] at hj'
    injection hj' with hj'
    exact .inr (.inl ⟨rfl,hj'.symm⟩)
   ·refine .inl ⟨hji,?_,?_⟩
    ·have:=(g5O.1 hj').1
     simpa using this
    ·rw[g5S (λe=>hji e.symm)] at hj' ⊢
     exact hj'
  ·exact .inr (.inr ⟨by simpa using hj',rfl⟩)
 have hmu:∀ (j b':Nat),(G.mu++[b])[j]?=some b'->(j < sg.length/\G.mu[j]?=some b')\/(j=sg.length/\b'=b):=by
  intro j b' hj
  rcases a3R _ _ _ _ hj with hj'|⟨hj',rfl⟩
  ·exact .inl ⟨by rw[<-hml];exact(g5O.1 hj').1,hj'⟩
  ·exact .inr ⟨by omega,rfl⟩
 have hd:∀ j:Nat,(sg.set i (false,cs'))[j]?=some (false,[])->j < sg.length->(sg.set i (false,[])++[(false,cs')])[j]?=some (false,[]):=by
  intro j q hj
  rw[g5J (by simpa using hj)]
  by_cases hji:j=i
  ·subst hji;exact g5T hil
  ·rw[g5S (λe=>hji e.symm)] at q ⊢
   exact q
 have hdi:(sg.set i (false,[])++[(false,cs')])[i]?=some (false,[]):=by
  rw[g5J (by simpa using hil)]
  exact g5T hil
 have hown:∀ (j:Nat),j < sg.length->G.mu[j]?=some b->(sg.set i (false,[])++[(false,cs')])[j]?=some (false,[]):=by
  intro j hj q
  rcases h.muinj j i b q hi with e|e|e
  ·subst e;exact hdi
  ·rw[g5J (by simpa using hj)]
   by_cases hji:j=i
   ·subst hji;exact g5T hil
   ·rw[g5S (λe=>hji e.symm)];exact e
  ·rw[hs] at e
   injection e with e
   injection e with _ e
   exact absurd e hne
 obtain⟨c0,t0,z0,f1,f2,f3,f4⟩:=hI.blk i b cs' hi hself
 refine⟨he.trans hx,⟨hI.fr,by simp [hml],?_,?_,?_,hI.tkl,hI.tok,?_,hI.tkinj,hI.stlt,?_,hI.bsz⟩⟩
 ·intro j k b' hj hk
  rcases hmu j b' hj with⟨j1,j2⟩|⟨rfl,rfl⟩ <;> rcases hmu k b' hk with⟨k1,k2⟩|⟨rfl,k2⟩
  ·rcases h.muinj j k b' j2 k2 with q|q|q
   ·exact .inl q
   ·refine .inr (.inl ?_)
    by_cases hji:j=i
    ·subst hji;exact hdi
    ·exact hd j (by rw[g5S (λe=>hji e.symm)];exact q) j1
   ·refine .inr (.inr ?_)
    by_cases hki:k=i
    ·subst hki;exact hdi
    ·exact hd k (by rw[g5S (λe=>hki e.symm)];exact q) k1
  ·subst k2;exact .inr (.inl (hown j j1 j2))
  ·exact .inr (.inr (hown k k1 k2))
  ·exact .inl rfl
 ·intro j b' cs'' hj hs'
  rcases hget j _ hs' with⟨q1,q2,q3⟩|⟨rfl,q2⟩|⟨rfl,q2⟩
  ·rcases hmu j b' hj with⟨j1,j2⟩|⟨e,_⟩
   ·obtain⟨c1,t1,z1,g1,g2,g3,g4⟩:=hI.blk j b' cs'' j2 q3
    exact⟨c1,t1,z1,g1,g2,λj v x hv hx'=>hx.prep (g3 j v x hv hx'),g4⟩
   ·omega
  ·injection q2 with _ q2
   subst q2
   rcases hmu j b' hj with⟨j1,j2⟩|⟨e,_⟩
   ·rw[hi] at j2
    injection j2 with j2
    subst j2
    exact⟨c0,t0,z0,f1,g7B _,λj v x hv hx=>by simp at hx,f4.1,λq=>absurd rfl q⟩
   ·omega
  ·injection q2 with _ q2
   subst q2
   rcases hmu sg.length b' hj with⟨j1,_⟩|⟨_,rfl⟩
   ·omega
   ·exact⟨c0,t0,z0,f1,f2,λj v x hv hx'=>hx.prep (f3 j v x hv hx'),f4⟩
 ·intro j b' cs'' hj hs'
  rcases hget j _ hs' with⟨q1,q2,q3⟩|⟨rfl,q2⟩|⟨rfl,q2⟩
  ·rcases hmu j b' hj with⟨j1,j2⟩|⟨e,_⟩
   ·obtain⟨es,k,g1,g2,g3⟩:=hI.mps j b' cs'' j2 q3
    exact⟨es,k,g1,hx.mrep g2,g3⟩
   ·omega
  ·injection q2 with q2 _
   cases q2
  ·injection q2 with q2 _
   cases q2
 ·intro k b' x j hk hj
  rcases hmu j b' hj with⟨_,j2⟩|⟨_,rfl⟩
  ·exact hI.tkmu k b' x j hk j2
  ·exact hI.tkmu k b' x i hk hi
 ·intro g ts j x hg hx'
  obtain⟨v,e1,e2,e3⟩:=hI.glob g ts j x hg hx'
  exact⟨v,e1,hx.trep e2,e3⟩
theorem Inv.giveUp (h:Inv fx gl G w sg ow) {i:Nat} {cs:List PV} (hs:sg[i]?=some (false,cs)):Inv fx gl G w (sg.set i (false,[])) ow:=by
 have hil:i < sg.length:=(g5O.1 hs).1
 have hd:∀ j:Nat,sg[j]?=some (false,[])->(sg.set i (false,[]))[j]?=some (false,[]):=by
  intro j q
  by_cases hji:j=i
  ·subst hji;exact g5T hil
  ·rw[g5S (λe=>hji e.symm)];exact q
 refine⟨h.fr,by simp [h.mul],?_,?_,?_,h.tkl,h.tok,h.tkmu,h.tkinj,h.stlt,h.glob,h.bsz⟩
 ·intro j k b hj hk
  rcases h.muinj j k b hj hk with q|q|q
  ·exact .inl q
  ·exact .inr (.inl (hd _ q))
  ·exact .inr (.inr (hd _ q))
 ·intro j b cs'' hj hs'
  by_cases hji:j=i
  ·subst hji
   rw[g5T hil] at hs'
   injection hs' with hs'
   injection hs' with _ e2
   subst e2
   obtain⟨c,t,z,e1,e2,e3,e4⟩:=h.blk j b cs hj hs
   exact⟨c,t,z,e1,g7B _,λj v x hv hx=>by simp at hx,e4.1,λq=>absurd rfl q⟩
  ·rw[g5S (λe=>hji e.symm)] at hs'
   exact h.blk j b cs'' hj hs'
 ·intro j b cs'' hj hs'
  by_cases hji:j=i
  ·subst hji
   rw[g5T hil] at hs'
   injection hs' with hs'
   injection hs' with e1 _
   cases e1
  ·rw[g5S (λe=>hji e.symm)] at hs'
   exact h.mps j b cs'' hj hs'
theorem Inv.growOwn (h:Inv fx gl G w sg ow) {k b o sz cap n m:Nat} (hk:G.tk[k]?=some (b,o,sz,cap)) (hn:ow[k]?=some n) (hnm:n < m) (hmc:m<=cap) {c:Array Value} {t:TypeId} {z:Nat×Nat}
  (hb:w.heap[b]?=some (.cells c t z)) (c':Array Value) (hsz:c'.size=c.size) (hsame:∀ j,j < n * sz->c'[j]?=c[j]?) :
  Ext G w ⟨G.mu,G.tk,G.fr.set k m,λb' j=>G.st b' j\/(b'=b/\j < m * sz),G.bs⟩ (a3X w b (.cells c' t z)) /\
  Inv fx gl ⟨G.mu,G.tk,G.fr.set k m,λb' j=>G.st b' j\/(b'=b/\j < m * sz),G.bs⟩ (a3X w b (.cells c' t z)) sg (ow.set k m):=by
 have hlt:=a3Q hb
 have hkl:k < ow.length:=(g5O.1 hn).1
 obtain⟨hpos,hncap,c0,t0,z0,e1,e2,e3,e4⟩:=h.tok k b o sz cap n hk hn
 rw[hb] at e1
 injection e1 with e1
 injection e1 with ea eb ec
 subst ea eb ec
 have hcell:∀ b' j,G.st b' j->(a3X w b (.cells c' t z)).cell? ⟨b',j,none⟩=w.cell? ⟨b',j,none⟩:=by
  intro b' j hs
  by_cases hne:b'=b
  ·subst hne
   rw[cell_of_row _ b' j c' t z (a3Y w b' _ hlt),cell_of_row _ b' j c t z hb]
   refine hsame j ?_
   rcases g6X j (n * sz) with hj|hj
   ·exact hj
   ·exact absurd hs (e4 j hj)
  ·unfold World.cell?
   rw[a3Z w b _ b' hne]
 have hfk:G.fr[k]?=some n:=by rw[h.fr];exact hn
 have hkl':k < G.fr.length:=(g5O.1 hfk).1
 have he:Ext G w ⟨G.mu,G.tk,G.fr.set k m,λb' j=>G.st b' j\/(b'=b/\j < m * sz),G.bs⟩ (a3X w b (.cells c' t z)):=by
  refine⟨⟨[],by simp⟩,λk' n' hk'=>?_,λk b x h=>.inl ⟨x,h⟩,λ_ _ h=>.inl h,λb' j hs=>?_,hcell,λb' hb' _ htk=>.inl (a3Z w b _ b' (λe=>htk k _ (e ▸ hk))),rfl,by simp [a3X],rfl,rfl,rfl,λb' c1 t1 z1 hb1=>?_⟩
  ·by_cases hkk:k'=k
   ·subst hkk
    rw[hfk] at hk'
    injection hk' with hk'
    subst hk'
    exact⟨m,by simp only;rw[g5T hkl'],by omega,λe=>by omega⟩
   ·exact⟨n',by simp only;rw[g5S (λe=>hkk e.symm)];exact hk',g6U _,λ_=>rfl⟩
  ·rcases hs with hs|⟨rfl,_⟩
   ·exact .inl hs
   ·exact .inr (.inr (.inl ⟨k,_,hk⟩))
  ·by_cases hbb:b'=b
   ·subst hbb
    rw[hb] at hb1
    injection hb1 with hb1
    injection hb1 with ea eb ec
    subst ea eb ec
    exact⟨c',z,a3Y w b' _ hlt,hsz⟩
   ·exact⟨c1,z1,by rw[a3Z w b _ b' hbb];exact hb1,rfl⟩
 refine⟨he,⟨by simp only;rw[h.fr],h.mul,h.muinj,?_,?_,by simp [h.tkl],?_,h.tkmu,h.tkinj,?_,?_,by simpa [a3X] using h.bsz⟩⟩
 ·intro i b' cs hi hs
  obtain⟨c1,t1,z1,f1,f2,f3,f4⟩:=h.blk i b' cs hi hs
  have hne:b'≠b:=λe=>h.tkmu k b _ i hk (e ▸ hi)
  refine⟨c1,t1,z1,by rw[a3Z w b _ b' hne];exact f1,f2,λj v x hv hx=>he.prep (f3 j v x hv hx),f4.1,λqq j hs=>?_⟩
  rcases hs with hs|⟨rfl,_⟩
  ·exact f4.2 qq j hs
  ·exact hne rfl
 ·intro i b' cs hi hs
  obtain⟨es,kk,f1,f2,f3⟩:=h.mps i b' cs hi hs
  have hne:b'≠b:=λe=>h.tkmu k b _ i hk (e ▸ hi)
  refine⟨es,kk,by rw[a3Z w b _ b' hne];exact f1,he.mrep f2,λj hs=>?_⟩
  rcases hs with hs|⟨rfl,_⟩
  ·exact f3 j hs
  ·exact hne rfl
 ·intro k' b' o' sz' cap' n' hk' hn'
  by_cases hkk:k'=k
  ·subst hkk
   simp only at hk'
   rw[hk] at hk'
   injection hk' with hk'
   injection hk' with q1 q2
   injection q2 with q2 q3
   injection q3 with q3 q4
   subst q1 q2 q3 q4
   rw[g5T hkl] at hn'
   injection hn' with hn'
   subst hn'
   refine⟨hpos,hmc,c',t,z,a3Y w b _ hlt,by omega,by rw[hsz];exact e3.mono (Nat.le_of_lt hnm),λj hj hs=>?_⟩
   rcases hs with hs|⟨_,hs⟩
   ·have:n * sz<=m * sz:=g6Y _ (Nat.le_of_lt hnm)
    exact e4 j (by omega) hs
   ·omega
  ·rw[g5S (λe=>hkk e.symm)] at hn'
   obtain⟨p1,p2,c1,t1,z1,f1,f2,f3,f4⟩:=h.tok k' b' o' sz' cap' n' hk' hn'
   have hne:b'≠b:=λe=>hkk (h.tkinj k' k b' _ _ hk' (e ▸ hk))
   refine⟨p1,p2,c1,t1,z1,by rw[a3Z w b _ b' hne];exact f1,f2,f3,λj hj hs=>?_⟩
   rcases hs with hs|⟨rfl,_⟩
   ·exact f4 j hj hs
   ·exact hne rfl
 ·intro b' j hs
  rcases hs with hs|⟨rfl,_⟩
  ·have:=h.stlt b' j hs
   simpa [a3X] using this
  ·simpa [a3X] using hlt
 ·intro g ts j x hg hx
  obtain⟨v,e1,e2,e3⟩:=h.glob g ts j x hg hx
  exact⟨v,(hcell _ _ e3).trans e1,he.trep e2,.inl e3⟩
theorem Inv.moveOwn (h:Inv fx gl G w sg ow) {k n m:Nat} (hn:ow[k]?=some n) (hm:n < m) (c:Array Value) (t:TypeId) (tg sz cap:Nat) (htg:tg=0\/tg=t+1) (hsz:0 < sz) (hmc:m<=cap) (hcap:cap * sz<=c.size) :
  Ext G w ⟨G.mu,G.tk.set k (w.heap.size,tg,sz,cap),G.fr.set k m,λb j=>G.st b j\/(b=w.heap.size/\j < m * sz),G.bs⟩ (w.alloc (.cells c t)) /\
  Inv fx gl ⟨G.mu,G.tk.set k (w.heap.size,tg,sz,cap),G.fr.set k m,λb j=>G.st b j\/(b=w.heap.size/\j < m * sz),G.bs⟩ (w.alloc (.cells c t)) sg (ow.set k m):=by
 have hkl:k < ow.length:=(g5O.1 hn).1
 have hkt:k < G.tk.length:=by rw[h.tkl];exact hkl
 have hfk:G.fr[k]?=some n:=by rw[h.fr];exact hn
 have hkl':k < G.fr.length:=(g5O.1 hfk).1
 have hold:∀ b,b < w.heap.size->(w.alloc (.cells c t)).heap[b]?=w.heap[b]?:=λb hb=>heap_alloc_old w _ b hb
 have hcell:∀ b o,G.st b o->(w.alloc (.cells c t)).cell? ⟨b,o,none⟩=w.cell? ⟨b,o,none⟩:=λb o hs=>World.cell?_alloc_lt w _ _ (h.stlt b o hs)
 have htk:∀ (k' b:Nat) (x:Nat×Nat×Nat),(G.tk.set k (w.heap.size,tg,sz,cap))[k']?=some (b,x)->(k'=k/\b=w.heap.size/\x=(tg,sz,cap))\/(k'≠k/\G.tk[k']?=some (b,x)):=by
  intro k' b x hk'
  by_cases hkk:k'=k
  ·subst hkk
   rw[g5T hkt] at hk'
   injection hk' with hk'
   injection hk' with q1 q2
   exact .inl ⟨rfl,q1.symm,q2.symm⟩
  ·rw[g5S (λe=>hkk e.symm)] at hk'
   exact .inr ⟨hkk,hk'⟩
 have he:Ext G w ⟨G.mu,G.tk.set k (w.heap.size,tg,sz,cap),G.fr.set k m,λb j=>G.st b j\/(b=w.heap.size/\j < m * sz),G.bs⟩ (w.alloc (.cells c t)):=by
  refine⟨⟨[],by simp⟩,λk' n' hk'=>?_,λk' b x hk'=>?_,λ_ _ h=>.inl h,λb' j hs=>?_,hcell,λb hb _ _=>.inl (hold b hb),rfl,by simp,rfl,rfl,rfl,λb c t z hb=>⟨c,z,by rw[hold b (a3Q hb)];exact hb,rfl⟩⟩
  ·by_cases hkk:k'=k
   ·subst hkk
    rw[hfk] at hk'
    injection hk' with hk'
    subst hk'
    exact⟨m,by simp only;rw[g5T hkl'],by omega,λe=>by omega⟩
   ·exact⟨n',by simp only;rw[g5S (λe=>hkk e.symm)];exact hk',g6U _,λ_=>by simp only;rw[g5S (λe=>hkk e.symm)]⟩
  ·rcases htk k' b x hk' with⟨_,rfl,_⟩|⟨_,hk'⟩
   ·exact .inr (g6U _)
   ·exact .inl ⟨x,hk'⟩
  ·rcases hs with hs|⟨rfl,_⟩
   ·exact .inl hs
   ·exact .inr (.inl (g6U _))
 refine⟨he,⟨by simp only;rw[h.fr],h.mul,h.muinj,?_,?_,by simp [h.tkl],?_,?_,?_,?_,?_,g6V h.bsz (by simp)⟩⟩
 ·intro i b' cs hi hs
  obtain⟨c1,t1,z1,f1,f2,f3,f4⟩:=h.blk i b' cs hi hs
  have hlt:=a3Q f1
  refine⟨c1,t1,z1,by rw[hold b' hlt];exact f1,f2,λj v x hv hx=>he.prep (f3 j v x hv hx),f4.1,λqq j hs=>?_⟩
  rcases hs with hs|⟨rfl,_⟩
  ·exact f4.2 qq j hs
  ·omega
 ·intro i b' cs hi hs
  obtain⟨es,kk,f1,f2,f3⟩:=h.mps i b' cs hi hs
  have hlt:=a3Q f1
  refine⟨es,kk,by rw[hold b' hlt];exact f1,he.mrep f2,λj hs=>?_⟩
  rcases hs with hs|⟨rfl,_⟩
  ·exact f3 j hs
  ·omega
 ·intro k' b' o' sz' cap' n' hk' hn'
  rcases htk k' b' _ hk' with⟨rfl,rfl,q⟩|⟨hkk,hk'⟩
  ·injection q with q1 q2
   injection q2 with q2 q3
   subst q1 q2 q3
   rw[g5T hkl] at hn'
   injection hn' with hn'
   subst hn'
   refine⟨hsz,hmc,c,t,(0,0),heap_alloc_new w _,by omega,htg.elim (λh=>.inl ⟨h,λj _=>by simp⟩) (λh=>.inr ⟨h,.inl rfl⟩),λj hj hs=>?_⟩
   rcases hs with hs|⟨_,hs⟩
   ·have:=h.stlt _ _ hs;omega
   ·omega
  ·rw[g5S (λe=>hkk e.symm)] at hn'
   obtain⟨p1,p2,c1,t1,z1,f1,f2,f3,f4⟩:=h.tok k' b' o' sz' cap' n' hk' hn'
   have hlt:=a3Q f1
   refine⟨p1,p2,c1,t1,z1,by rw[hold b' hlt];exact f1,f2,f3,λj hj hs=>?_⟩
   rcases hs with hs|⟨rfl,_⟩
   ·exact f4 j hj hs
   ·omega
 ·intro k' b x i hk' hi
  rcases htk k' b x hk' with⟨_,rfl,_⟩|⟨_,hk'⟩
  ·have:=h.mu_lt hi;omega
  ·exact h.tkmu k' b x i hk' hi
 ·intro k1 k2 b x y h1 h2
  rcases htk k1 b x h1 with⟨q1,q2,_⟩|⟨_,h1⟩ <;> rcases htk k2 b y h2 with⟨q3,q4,_⟩|⟨_,h2⟩
  ·omega
  ·have:=h.tk_lt h2;omega
  ·have:=h.tk_lt h1;omega
  ·exact h.tkinj k1 k2 b x y h1 h2
 ·intro b o hs
  rcases hs with hs|⟨rfl,_⟩
  ·have:=h.stlt b o hs
   simp;omega
  ·simp
 ·intro g ts j x hg hx
  obtain⟨v,e1,e2,e3⟩:=h.glob g ts j x hg hx
  exact⟨v,(hcell _ _ e3).trans e1,he.trep e2,.inl e3⟩
theorem Inv.freeze (h:Inv fx gl G w sg ow) {i b:Nat} {cs:List PV} (hi:G.mu[i]?=some b) (hs:sg[i]?=some (false,cs)) (hne:cs≠[]) (lo hi':Nat) :
  Ext G w { G with st:=λb' o=>G.st b' o\/(b'=b/\lo<=o/\o < hi') } w/\Inv fx gl { G with st:=λb' o=>G.st b' o\/(b'=b/\lo<=o/\o < hi') } w (sg.set i (false,[])) ow:=by
 have hil:i < sg.length:=(g5O.1 hs).1
 obtain⟨c0,t0,z0,e1,e2,e3,e4⟩:=h.blk i b cs hi hs
 have hlt:=a3Q e1
 have he:Ext G w { G with st:=λb' o=>G.st b' o\/(b'=b/\lo<=o/\o < hi') } w :=
  ⟨⟨[],by simp⟩,λk n h=>⟨n,h,g6U _,λ_=>rfl⟩,λk b x h=>.inl ⟨x,h⟩,λ_ _ h=>.inl h,λb' o hs=>by
   rcases hs with hs|⟨rfl,_⟩
   ·exact .inl hs
   ·exact .inr (.inr (.inr ⟨i,hi⟩)),λ_ _ _=>rfl,λ_ _ _ _=>.inl rfl,rfl,g6U _,rfl,rfl,rfl,λb c t z h=>⟨c,z,h,rfl⟩⟩
 have hself:(sg.set i (false,[]))[i]?=some (false,([]:List PV)):=g5T hil
 refine⟨he,⟨h.fr,by simp [h.mul],?_,?_,?_,h.tkl,?_,h.tkmu,h.tkinj,?_,?_,h.bsz⟩⟩
 ·intro j k b' hj hk
  rcases h.muinj j k b' hj hk with q|q|q
  ·exact .inl q
  ·refine .inr (.inl ?_)
   by_cases e:i=j
   ·subst e;exact hself
   ·rw[g5S e];exact q
  ·refine .inr (.inr ?_)
   by_cases e:i=k
   ·subst e;exact hself
   ·rw[g5S e];exact q
 ·intro k b' cs' hk hs'
  by_cases e:i=k
  ·subst e
   rw[hself] at hs'
   injection hs' with hs'
   injection hs' with _ hs'
   subst hs'
   rw[hi] at hk
   injection hk with hk
   subst hk
   exact⟨c0,t0,z0,e1,g7B _,λj v x hv hx=>by simp at hx,e4.1,λq=>absurd rfl q⟩
  ·rw[g5S e] at hs'
   obtain⟨c,t,z,f1,f2,f3,f4⟩:=h.blk k b' cs' hk hs'
   refine⟨c,t,z,f1,f2,λj v x hv hx=>he.prep (f3 j v x hv hx),f4.1,λq o ho=>?_⟩
   rcases ho with ho|⟨rfl,_⟩
   ·exact f4.2 q o ho
   ·rcases h.muinj i k b' hi hk with r|r|r
    ·exact e r
    ·rw[hs] at r
     injection r with r
     injection r with _ r
     exact hne r
    ·rw[hs'] at r
     injection r with r
     injection r with _ r
     exact q r
 ·intro k b' cs' hk hs'
  by_cases e:i=k
  ·subst e
   rw[hself] at hs'
   injection hs' with hs'
   injection hs' with hs' _
   cases hs'
  ·rw[g5S e] at hs'
   obtain⟨es,kk,f1,f2,f3⟩:=h.mps k b' cs' hk hs'
   refine⟨es,kk,f1,he.mrep f2,λo ho=>?_⟩
   rcases ho with ho|⟨rfl,_⟩
   ·exact f3 o ho
   ·rw[e1] at f1
    injection f1 with f1
    cases f1
 ·intro k b' o sz cap n hk hn
  obtain⟨h1,h2,c,t,z,f1,f2,f3,f4⟩:=h.tok k b' o sz cap n hk hn
  refine⟨h1,h2,c,t,z,f1,f2,f3,λj hj ho=>?_⟩
  rcases ho with ho|⟨rfl,_⟩
  ·exact f4 j hj ho
  ·exact h.tkmu k b' _ i hk hi
 ·intro b' o ho
  rcases ho with ho|⟨rfl,_⟩
  ·exact h.stlt b' o ho
  ·exact hlt
 ·intro g ts j x hg hx
  obtain⟨v,f1,f2,f3⟩:=h.glob g ts j x hg hx
  exact⟨v,f1,he.trep f2,.inl f3⟩
end Go.Pi
