/- PI 10: the cells of slices, aggregates that are built, stores, bytes and strings. -/
import Derived.Test.YtdjcnfacjfnakaaGreatPi9
import Derived.Laws.IdiomStrings
import Derived.Laws.Append
import Derived.Laws.MakeOwn
set_option linter.unusedSimpArgs false
set_option linter.unusedVariables false
namespace Go.Pi
variable {P:Program} {tb:Tb} {fx:List (Nat×Nat)} {gl:Nat->Option (List T)} {G:Gh} {w:World} {sg:Sg} {ow:Ow} {nt:Nat} {a:Act} {fr:List PV}
def VRep (st:Nat->Nat->Prop) (w:World) (sz:Nat) (es:List (List T)) (vs:List Value):Prop :=
 vs.length=es.length * sz/\∀ (i j:Nat) (e:List T) (y:T),es[i]?=some e->e[j]?=some y->∃ v,vs[i * sz+j]?=some v/\TRep st w v y
theorem VRep.nil (st:Nat->Nat->Prop) (w:World) (sz:Nat):VRep st w sz [] []:=⟨by simp,λi j e y hi=>by simp at hi⟩
theorem VRep.mono {st st':Nat->Nat->Prop} {w w':World} {sz:Nat} {es:List (List T)} {vs:List Value} (h:VRep st w sz es vs) (hm:∀ v y,TRep st w v y->TRep st' w' v y):VRep st' w' sz es vs :=
 ⟨h.1,λi j e y hi hj=>let ⟨v,h1,h2⟩:=h.2 i j e y hi hj;⟨v,h1,hm _ _ h2⟩⟩
theorem VRep.append {st:Nat->Nat->Prop} {w:World} {sz:Nat} {es es':List (List T)} {vs vs':List Value} (h:VRep st w sz es vs) (h':VRep st w sz es' vs'):VRep st w sz (es++es') (vs++vs'):=by
 refine⟨by simp [h.1,h'.1,g6Q],λi j e y hi hj=>?_⟩
 rcases g6X i es.length with hlt|hge
 ·rw[g5J hlt] at hi
  obtain⟨v,h1,h2⟩:=h.2 i j e y hi hj
  refine⟨v,?_,h2⟩
  rw[g5J (g5O.1 h1).1]
  exact h1
 ·rw[g5K hge] at hi
  obtain⟨v,h1,h2⟩:=h'.2 (i - es.length) j e y hi hj
  refine⟨v,?_,h2⟩
  have he:i * sz+j=vs.length+((i - es.length) * sz+j):=by
   rw[h.1]
   have:i=es.length+(i - es.length):=by omega
   conv=>lhs;rw[this,g6Q]
   omega
  rw[he,g5K (by omega)]
  have:vs.length+((i - es.length) * sz+j) - vs.length=(i - es.length) * sz+j:=by omega
  rw[this]
  exact h1
theorem TRep.ofRow {st:Nat->Nat->Prop} {b o cap sz:Nat} {es:List (List T)} {vs:List Value} (hsz:∀ e∈es,e.length=sz) (ho:∀ e,e∈es->∀ x,x∈e->x.isAgg=false) (hcap:es.length<=cap) (hv:VRep st w sz es vs) (hc:∀ j v,vs[j]?=some v->w.cell? ⟨b,o+j,none⟩=some v)
  (hs:∀ j,j < es.length * sz->st b (o+j)):TRep st w (.slice (some ⟨b,o,none⟩) es.length cap) (.sl false es):=by
 refine .sl ⟨b,o,none⟩ cap sz es (λi j=>vs.getD (i * sz+j) undef) hcap (λ_=>rfl) hsz ho ?_ ?_
 ·intro i j e x hi hj
  obtain⟨v,h1,_⟩:=hv.2 i j e x hi hj
  have:vs.getD (i * sz+j) undef=v:=by simp [List.getD,h1]
  simp only[this]
  refine⟨hc _ _ h1,hs _ ?_⟩
  rw[<-hv.1]
  exact(g5O.1 h1).1
 ·intro i j e x hi hj
  obtain⟨v,h1,h2⟩:=hv.2 i j e x hi hj
  have:vs.getD (i * sz+j) undef=v:=by simp [List.getD,h1]
  rw[this]
  exact h2
theorem a6N {i n sz j:Nat} (hi:i < n) (hj:j < sz):i * sz+j < n * sz:=by
 have:(i+1) * sz<=n * sz:=g6Y _ hi
 rw[g6Q,Nat.one_mul] at this
 omega
theorem TRep.row {st:Nat->Nat->Prop} {ad:Option Addr} {n cap sz:Nat} {nl:Bool} {es:List (List T)} (h:TRep st w (.slice ad n cap) (.sl nl es)) (hall:∀ e∈es,e.length=sz) (hsz:0 < sz) :
  ∃ vs,VRep st w sz es vs/\(∀ e,e∈es->∀ x,x∈e->x.isAgg=false)/\(es≠[]->∃ b o,ad=some ⟨b,o,none⟩/\∀ j v,vs[j]?=some v->w.cell? ⟨b,o+j,none⟩=some v):=by
 generalize hv:Value.slice ad n cap=v at h
 generalize hx:T.sl nl es=x at h
 cases h <;> simp only[reduceCtorEq,Value.slice.injEq,T.sl.injEq] at hv hx
 ·obtain⟨rfl,rfl⟩:=hx
  exact⟨[],.nil _ _ _,by simp,λh=>absurd rfl h⟩
 ·rename_i ad' cap' sz0 es' vs hcap hsp hsz0 ho hc hr
  obtain⟨rfl,rfl,rfl⟩:=hv
  obtain⟨rfl,rfl⟩:=hx
  by_cases hne:es=[]
  ·subst hne
   exact⟨[],.nil _ _ _,by simp,λh=>absurd rfl h⟩
  ·have hszz:sz0=sz:=by
    cases hes:es with
    |nil=>exact absurd hes hne
    |cons e r=>rw[<-hall e (by simp [hes]),hsz0 e (by simp [hes])]
   subst hszz
   have hspot:=hsp hne
   obtain⟨bb,oo,ss⟩:=ad'
   simp only at hspot
   subst hspot
   refine⟨(List.range (es.length * sz0)).map λk=>vs (k / sz0) (k % sz0),⟨by simp,λi j e y hi hj=>?_⟩,ho,λ_=>⟨bb,oo,rfl,λk v hk=>?_⟩⟩
   ·have hil:i < es.length:=(g5O.1 hi).1
    have hjl:j < sz0:=by rw[<-hsz0 e (g6K hi)];exact(g5O.1 hj).1
    refine⟨vs i j,?_,hr i j e y hi hj⟩
    rw[g5P,g5R (a6N hil hjl)]
    have e1:(i * sz0+j) / sz0=i:=by rw[Nat.mul_comm,Nat.mul_add_div hsz,Nat.div_eq_of_lt hjl,g6R]
    have e2:(i * sz0+j) % sz0=j:=by rw[Nat.mul_comm,Nat.mul_add_mod,Nat.mod_eq_of_lt hjl]
    simp [e1,e2]
   ·rw[g5P,g7E] at hk
    obtain⟨q,hq,rfl⟩:=hk
    have hkl:k < es.length * sz0:=by
     rcases g6X k (es.length * sz0) with h|h
     ·exact h
     ·rw[g5N (by simpa using h)] at hq;cases hq
    rw[g5R hkl] at hq
    injection hq with hq
    subst hq
    have hi:k / sz0 < es.length:=Nat.div_lt_of_lt_mul (by rw[Nat.mul_comm];exact hkl)
    have he:=g5M hi
    have hl:=hsz0 _ (g6K he)
    have hj:k % sz0 < (es[k / sz0]).length:=by rw[hl];exact Nat.mod_lt _ hsz
    have:=(hc (k / sz0) (k % sz0) _ _ he (g5M hj)).1
    simp only at this
    rw[Nat.mul_comm,Nat.div_add_mod] at this
    exact this
theorem a6O (sz:Nat):∀ (n:Nat) (l:List T) (i:Nat) (e:List T),(a0C sz n l)[i]?=some e->i < n/\e=(l.drop (i * sz)).take sz:=by
 intro n
 induction n with
 |zero=>intro l i e h;simp [a0C] at h
 |succ n ih =>
  intro l i e h
  cases i with
  |zero=>simp [a0C] at h;simp [h]
  |succ i =>
   simp only[a0C,List.getElem?_cons_succ] at h
   obtain⟨h1,h2⟩:=ih _ _ _ h
   refine⟨by omega,?_⟩
   rw[h2,g5E]
   congr 2
   rw[g6Q];omega
theorem a6P (sz:Nat):∀ (n:Nat) (l:List T),(a0C sz n l).length=n:=by
 intro n
 induction n with
 |zero=>intro l;rfl
 |succ n ih=>intro l;simp [a0C,ih]
theorem a6Q (sz n:Nat) (l:List T) (h:n * sz<=l.length):∀ e∈a0C sz n l,e.length=sz:=by
 intro e he
 obtain⟨i,hi⟩:=g5Q he
 obtain⟨h1,rfl⟩:=a6O sz n l i e hi
 have:(i+1) * sz<=n * sz:=g6Y _ h1
 rw[g6Q,Nat.one_mul] at this
 simp
 omega
theorem a6R {sz n:Nat} {l:List T} (h:∀ x∈l,x.isAgg=false):∀ e,e∈a0C sz n l->∀ x,x∈e->x.isAgg=false:=by
 intro e he x hx
 obtain⟨i,hi⟩:=g5Q he
 obtain⟨_,rfl⟩:=a6O sz n l i e hi
 exact h x (List.mem_of_mem_drop (List.mem_of_mem_take hx))
theorem a6S {st:Nat->Nat->Prop} {sz n:Nat} {ts:List T} {vs:List Value} (hl:vs.length=ts.length) (hn:ts.length=n * sz) (hr:∀ (i:Nat) (v:Value) (y:T),vs[i]?=some v->ts[i]?=some y->TRep st w v y):VRep st w sz (a0C sz n ts) vs:=by
 refine⟨by rw[hl,hn,a6P],λi j e y hi hj=>?_⟩
 obtain⟨h1,rfl⟩:=a6O sz n ts i e hi
 rw[g5U,g5L] at hj
 split at hj
 ·have hlt:i * sz+j < ts.length:=(g5O.1 hj).1
  exact⟨vs[i * sz+j]'(by omega),g5M (by omega),hr _ _ _ (g5M (by omega)) hj⟩
 ·cases hj
theorem a6T (hi:Inv fx gl G w sg ow) {u:Value} {id off len sz' sz:Nat} {es:List (List T)} (hu:PRep fx G w u (.ls id off len sz')) (h:a0J sg sz id off len sz'=some es) (hall:∀ e∈es,e.length=sz) (hsz:0 < sz) :
  ∃ ad cap vs,u=.slice ad es.length cap/\VRep G.st w sz es vs/\(∀ e,e∈es->∀ x,x∈e->x.isAgg=false)/\(es≠[]->∃ b o,ad=some ⟨b,o,none⟩/\∀ j v,vs[j]?=some v->w.cell? ⟨b,o+j,none⟩=some v):=by
 unfold a0J at h
 ·split at h
  ·rename_i hszz
   subst hszz
   split at h
   ·rename_i cs hs
    split at h
    ·rename_i hb
     split at h
     case h_2=>cases h
     rename_i ts hts
     split at h
     ·cases h
     rename_i hagg
     injection h with h
     subst h
     have hcs:=a4N hts
     have hno:∀ x∈ts,x.isAgg=false:=λx hx=>by
      cases hq:x.isAgg with
      |false=>rfl
      |true=>exact absurd (List.any_eq_true.2 ⟨x,hx,hq⟩) hagg
     cases hu with|ls _ _ _ _ cap b ad hmu hcap ha =>
     obtain⟨c,t,z,e1,e2,e3,_⟩:=hi.blk id b cs hmu hs
     have htl:ts.length=len * sz':=by
      have:=congrArg List.length hcs
      simp at this
      omega
     refine⟨some ad,cap,(c.toList.drop off).take (len * sz'),by rw[a6P],a6S (by simp [htl];omega) htl ?_,a6R hno,λhne=>?_⟩
     ·intro i v y hv hy
      rw[g5U,g5L] at hv
      split at hv
      ·rename_i hlt
       have hy':cs[off+i]?=some (.t y):=by
        have:=congrArg (λl:List PV=>l[i]?) hcs
        simp only[g5U,g5L,if_pos hlt,g5P,hy,g7F] at this
        exact this
       have:=e3 (off+i) v (.t y) (by simpa using hv) hy'
       exact this.t_inv
      ·cases hv
     ·rcases ha with ha|rfl
      ·subst ha;simp [a0C] at hne
      ·refine⟨b,off,rfl,λj v hv=>?_⟩
       rw[g5U,g5L] at hv
       split at hv
       ·rw[cell_of_row w b (off+j) c t z e1]
        simpa using hv
       ·cases hv
    ·cases h
   ·cases h
  ·cases h
theorem a6U (hi:Inv fx gl G w sg ow) {u:Value} {x:PV} {sz:Nat} {es:List (List T)} (hu:PRep fx G w u x) (h:a0K sg sz x=some es) (hall:∀ e∈es,e.length=sz) (hsz:0 < sz) :
  ∃ ad cap vs,u=.slice ad es.length cap/\VRep G.st w sz es vs/\(∀ e,e∈es->∀ x,x∈e->x.isAgg=false)/\(es≠[]->∃ b o,ad=some ⟨b,o,none⟩/\∀ j v,vs[j]?=some v->w.cell? ⟨b,o+j,none⟩=some v):=by
 unfold a0K at h
 split at h
 ·exact a6T hi hu h hall hsz
 ·exact a6T hi hu.bf_ls h hall hsz
 ·obtain⟨⟨nl,htr⟩,ad,cap,rfl⟩:=a5V hu h
  obtain⟨vs,h1,h2,h3⟩:=htr.row hall hsz
  exact⟨ad,cap,vs,rfl,h1,h2,h3⟩
end Go.Pi

/- PI 11: aggregates and slices that are built; stores; new variables. -/
namespace Go.Pi
variable {P:Program} {tb:Tb} {fx:List (Nat×Nat)} {gl:Nat->Option (List T)} {G:Gh} {w:World} {sg:Sg} {ow:Ow} {nt:Nat} {a:Act} {fr:List PV}
def CRep (fx:List (Nat×Nat)) (G:Gh) (w:World) (c:Array Value) (cs:List PV):Prop :=
 c.size=cs.length/\∀ (j:Nat) (u:Value) (y:PV),c[j]?=some u->cs[j]?=some y->PRep fx G w u y
theorem a6V (cs:List PV) (off:Nat) (vs:List PV):(setRange cs off vs).length=cs.length:=by
 induction vs generalizing cs off with
 |nil=>rfl
 |cons v r ih=>simp [setRange,ih]
theorem a6W (cs:List PV) (off:Nat) (vs:List PV) (hb:off+vs.length<=cs.length) (j:Nat):(setRange cs off vs)[j]?=if off<=j/\j < off+vs.length then vs[j - off]? else cs[j]?:=by
 induction vs generalizing cs off with
 |nil=>simp [setRange];intros;omega
 |cons v r ih =>
  simp only[g5X] at hb
  rw[setRange,ih (cs.set off v) (off+1) (by simp;omega)]
  by_cases h1:off+1<=j/\j < off+1+r.length
  ·rw[if_pos h1,if_pos (by simp only[g5X];omega)]
   have:j - off=(j - (off+1))+1:=by omega
   rw[this,List.getElem?_cons_succ]
  ·rw[if_neg h1]
   by_cases h2:j=off
   ·subst h2
    rw[if_pos (by simp only[g5X];omega),g5T (by omega)]
    simp
   ·rw[if_neg (by simp only[g5X];omega),g5S (λe=>h2 e.symm)]
theorem CRep.set {c d:Array Value} {cs ds:List PV} (h:CRep fx G w c cs) (hd:CRep fx G w d ds) {off:Nat} (hb:off+ds.length<=cs.length):CRep fx G w (a3U c off d.toList) (setRange cs off ds):=by
 have hb':off+d.toList.length<=c.size:=by rw[g4R,hd.1,h.1];exact hb
 refine⟨by rw[a3V,a6V,h.1],λj u y hu hy=>?_⟩
 rw[a3W c off d.toList hb' j] at hu
 rw[a6W cs off ds hb j] at hy
 rw[g4R,hd.1] at hu
 split at hu
 ·rename_i hj
  rw[if_pos hj] at hy
  exact hd.2 (j - off) u y (by simpa using hu) hy
 ·rename_i hj
  rw[if_neg hj] at hy
  exact h.2 j u y hu hy
theorem a6X (l:List Value):∀ (k off:Nat) (c:Array Value),(l.zipIdx k).foldl (λcs (p:Value×Nat)=>cs.setIfInBounds (off+p.2) p.1) c=a3U c (off+k) l:=by
 induction l with
 |nil=>intro k off c;rfl
 |cons v r ih=>intro k off c;rw[List.zipIdx_cons,List.foldl_cons,ih,a3U];simp only[Nat.add_assoc]
theorem a6Y {place:Nat->Option (Nat×Nat)}:∀ (ps:List (Nat×Value)) (qs:List (Nat×Nat×PV)) (c:Array Value) (cs cs':List PV),CRep fx G w c cs->ps.length=qs.length ->
  (∀ (i:Nat) (p:Nat×Value) (q:Nat×Nat×PV),ps[i]?=some p->qs[i]?=some q->place p.1=some (q.1,q.2.1)/\PRep fx G w p.2 q.2.2)->fillP cs qs=some cs'->∃ c',Instr.fill place c ps=some c'/\CRep fx G w c' cs':=by
 intro ps
 induction ps with
 |nil =>
  intro qs c cs cs' hc hl _ h
  obtain rfl:=g5G hl.symm
  simp only[fillP,g7G] at h
  subst h
  exact⟨c,rfl,hc⟩
 |cons p ps ih =>
  intro qs c cs cs' hc hl hp h
  cases qs with
  |nil=>simp at hl
  |cons q qs =>
   obtain⟨i,v⟩:=p
   obtain⟨off,n,x⟩:=q
   obtain⟨h1,h2⟩:=hp 0 _ _ rfl rfl
   simp only at h1 h2
   simp only[fillP] at h
   split at h
   ·rename_i hcond
    have hcr:=a4M h2
    have hset:=CRep.set (off:=off) hc hcr (by omega)
    obtain⟨c',e1,e2⟩:=ih qs (a3U c off v.cells.toList) _ cs' hset (by simpa using hl) (λi p q hp' hq'=>hp (i+1) p q (by simpa using hp') (by simpa using hq')) h
    refine⟨c',?_,e2⟩
    have hc1:v.cells.size=n:=by rw[hcr.1];exact hcond.1
    have hc2:off+v.cells.size<=c.size:=by rw[hc1,hc.1];exact hcond.2
    have hfold:v.cells.zipIdx.foldl (λcs (c,j)=>cs.setIfInBounds (off+j) c) c=a3U c off v.cells.toList:=by
     rw[<-Array.foldl_toList,Array.toList_zipIdx]
     have:=a6X v.cells.toList 0 off c
     simpa using this
    simp only[Instr.fill,h1]
    rw[if_neg (by simp [hc1];omega),hfold]
    exact e1
   ·cases h
theorem a6Z {l:List Value} {ts:List T} (h:a2C l=some ts):l.length=ts.length/\∀ (i:Nat) (v:Value) (x:T),l[i]?=some v->ts[i]?=some x->a1T v=some x:=by
 induction l generalizing ts with
 |nil=>simp [a2C] at h;subst h;simp
 |cons v r ih =>
  simp only[a2C] at h
  split at h
  ·rename_i x xs h1 h2
   injection h with h
   subst h
   obtain⟨e1,e2⟩:=ih h2
   refine⟨by simp [e1],λi u y hu hy=>?_⟩
   cases i with
   |zero=>simp at hu hy;subst hu hy;exact h1
   |succ i=>simp at hu hy;exact e2 i u y hu hy
  ·cases h
theorem a7A {t:TypeId} {zs:List T} (h:a2D P t=some zs):∃ i z,P.info? t=some i/\i.zero=some z/\z.cells.size=zs.length/\∀ (j:Nat) (v:Value) (x:T),z.cells[j]?=some v->zs[j]?=some x->∀ (st:Nat->Nat->Prop) (w:World),TRep st w v x:=by
 unfold a2D at h
 split at h
 ·rename_i i hi
  split at h
  ·rename_i z hz
   obtain⟨h1,h2⟩:=a6Z h
   exact⟨i,z,hi,hz,by simpa using h1,λj v x hv hx st w=>a4D (h2 j v x (by simpa using hv) hx)⟩
  ·cases h
 ·cases h
theorem a7B {t:TypeId} {i:TypeInfo} {z:Value} (hi:P.info? t=some i) (hz:i.zero=some z) (w:World):(zeroValue t).run P w=.ok z w:=by simp [zeroValue,a4T hi,hz]
theorem a7C {zs:List T} {z:Value} (hl:z.cells.size=zs.length) (hr:∀ (j:Nat) (v:Value) (x:T),z.cells[j]?=some v->zs[j]?=some x->∀ (st:Nat->Nat->Prop) (w:World),TRep st w v x):CRep fx G w z.cells (zs.map .t) :=
 ⟨by simpa using hl,λj u y hu hy=>by
  simp only[g5P,g7E] at hy
  obtain⟨q,hq,rfl⟩:=hy
  exact .t (hr j u q hu hq _ _)⟩
theorem a7D {fs:List Field} {pl:List (Nat×Nat)} (h:a2M P fs=some pl) (w:World):(fs.mapM λf=>do pure (f.offset,<-sizeOf f.type):Sem (List (Nat×Nat))).run P w=.ok pl w:=by
 induction fs generalizing pl with
 |nil=>simp [a2M] at h;subst h;simp
 |cons f r ih =>
  simp only[a2M] at h
  split at h
  ·rename_i s l h1 h2
   injection h with h
   subst h
   rw[g6C]
   simp only[Sem.run_bind,a4U h1,Result.andThen_ok,Sem.run_pure,ih h2]
  ·cases h
theorem a7E {place:Nat->Option (Nat×Nat)} {ps:List (Nat×Operand)} {qs:List (Nat×Nat×Opd)} (h:a2L tb nt place ps=some qs):ps.length=qs.length /\
  ∀ (i:Nat) (p:Nat×Operand) (q:Nat×Nat×Opd),ps[i]?=some p->qs[i]?=some q->place p.1=some (q.1,q.2.1)/\a1W tb nt p.2=some q.2.2:=by
 induction ps generalizing qs with
 |nil=>simp [a2L] at h;subst h;simp
 |cons p r ih =>
  obtain⟨i,x⟩:=p
  simp only[a2L] at h
  split at h
  ·rename_i o s y l h1 h2 h3
   injection h with h
   subst h
   obtain⟨e1,e2⟩:=ih h3
   refine⟨by simp [e1],λj p q hp hq=>?_⟩
   cases j with
   |zero=>simp at hp hq;subst hp hq;exact⟨h1,h2⟩
   |succ j=>simp at hp hq;exact e2 j p q hp hq
  ·cases h
theorem a7F {t:TypeId} {ps:Array (Nat×Operand)} {zs:List T} {l:List (Nat×Nat×Opd)} {cs:List PV} (hf:FRep tb.fx G w nt a fr) (h:a2O P tb nt t ps.toList=some (.build zs l))
  (hfill:fillP (zs.map .t) (l.map λp=>(p.1,p.2.1,p.2.2.ev fr))=some cs) :
  ∃ v,(Instr.build t (ps.map λ(i,x)=>(i,a.eval x))).run P w=.ok v w/\PRep tb.fx G w v (mkAgg cs):=by
 unfold a2O at h
 split at h
 ·rename_i zs' fs hz hu
  split at h
  ·rename_i pl hpl
   simp only[g7E] at h
   obtain⟨l',hl',heq⟩:=h
   unfold a2N at heq
   split at heq
   ·cases heq
   injection heq with e1 e2
   subst e1 e2
   obtain⟨i,z,hi,hzz,hzl,hzr⟩:=a7A hz
   obtain⟨q1,q2⟩:=a7E hl'
   obtain⟨c',f1,f2⟩:=a6Y (fx:=tb.fx) (G:=G) (w:=w) (place:=(pl.toArray[·]?)) (ps.toList.map λp=>(p.1,a.eval p.2)) (l'.map λp=>(p.1,p.2.1,p.2.2.ev fr)) z.cells (zs'.map .t) cs (a7C hzl hzr) (by simpa using q1) (λi p q hp hq=>by
    simp only[g5P,g7E] at hp hq
    obtain⟨p',hp',rfl⟩:=hp
    obtain⟨q',hq',rfl⟩:=hq
    obtain⟨r1,r2⟩:=q2 i p' q' hp' hq'
    exact⟨by simpa using r1,a4H r2 hf⟩) hfill
   refine⟨.agg c',?_,a4P f2.1 f2.2⟩
   have hmap:(fs.mapM λf=>do pure (f.offset,<-sizeOf f.type):Sem (Array (Nat×Nat))).run P w=.ok pl.toArray w:=by
    rw[Array.mapM_eq_mapM_toList]
    simp only[Sem.run_map,a7D hpl,Result.andThen_ok]
   simp only[Instr.build,Sem.run_bind,a7B hi hzz,Result.andThen_ok,run_underlying hu,hmap]
   have:(ps.map λ(i,x)=>(i,a.eval x)).toList=ps.toList.map λp=>(p.1,a.eval p.2):=by simp
   rw[this,f1]
   rfl
  ·cases h
 ·rename_i zs' n e hz hu
  split at h
  ·rename_i s hs
   simp only[g7E] at h
   obtain⟨l',hl',heq⟩:=h
   injection heq with e1 e2
   subst e1 e2
   obtain⟨i,z,hi,hzz,hzl,hzr⟩:=a7A hz
   obtain⟨q1,q2⟩:=a7E hl'
   obtain⟨c',f1,f2⟩:=a6Y (fx:=tb.fx) (G:=G) (w:=w) (place:=λi=>some (i * s,s)) (ps.toList.map λp=>(p.1,a.eval p.2)) (l'.map λp=>(p.1,p.2.1,p.2.2.ev fr)) z.cells (zs'.map .t) cs (a7C hzl hzr) (by simpa using q1) (λi p q hp hq=>by
    simp only[g5P,g7E] at hp hq
    obtain⟨p',hp',rfl⟩:=hp
    obtain⟨q',hq',rfl⟩:=hq
    obtain⟨r1,r2⟩:=q2 i p' q' hp' hq'
    exact⟨r1,a4H r2 hf⟩) hfill
   refine⟨.agg c',?_,a4P f2.1 f2.2⟩
   simp only[Instr.build,Sem.run_bind,a7B hi hzz,Result.andThen_ok,run_underlying hu,a4U hs]
   have:(ps.map λ(i,x)=>(i,a.eval x)).toList=ps.toList.map λp=>(p.1,a.eval p.2):=by simp
   rw[this,f1]
   rfl
  ·cases h
 ·cases h
theorem a7G {t:TypeId} {ps:Array (Nat×Operand)} {zs:List T} {l:List (Nat×Nat×Opd)} {cs vs:List PV} (h:a2O P tb nt t ps.toList=some (.bldz zs l)) (hlen:vs.length=l.length)
  (hval:∀ (i:Nat) (p:Nat×Operand) (v:PV),ps.toList[i]?=some p->vs[i]?=some v->PRep tb.fx G w (a.eval p.2) v)
  (hfill:fillP (zs.map .t) ((l.zip vs).map λp=>(p.1.1,p.1.2.1,p.2))=some cs) :
  ∃ v,(Instr.build t (ps.map λ(i,x)=>(i,a.eval x))).run P w=.ok v w/\PRep tb.fx G w v (mkAgg cs):=by
 unfold a2O at h
 split at h
 ·rename_i zs' fs hz hu
  split at h
  ·rename_i pl hpl
   simp only[g7E] at h
   obtain⟨l',hl',heq⟩:=h
   unfold a2N at heq
   split at heq
   case isFalse=>cases heq
   injection heq with e1 e2
   subst e1 e2
   obtain⟨i,z,hi,hzz,hzl,hzr⟩:=a7A hz
   obtain⟨q1,q2⟩:=a7E hl'
   obtain⟨c',f1,f2⟩:=a6Y (fx:=tb.fx) (G:=G) (w:=w) (place:=(pl.toArray[·]?)) (ps.toList.map λp=>(p.1,a.eval p.2)) ((l'.zip vs).map λp=>(p.1.1,p.1.2.1,p.2)) z.cells (zs'.map .t) cs (a7C hzl hzr) (by simp only[g5Y,List.length_zip];omega) (λi p q hp hq=>by
    simp only[g5P,g7E] at hp hq
    obtain⟨p',hp',rfl⟩:=hp
    obtain⟨⟨q',v'⟩,hq',rfl⟩:=hq
    rw[List.getElem?_zip_eq_some] at hq'
    obtain⟨r1,r2⟩:=q2 i p' q' hp' hq'.1
    exact⟨by simpa using r1,hval i p' v' hp' hq'.2⟩) hfill
   refine⟨.agg c',?_,a4P f2.1 f2.2⟩
   have hmap:(fs.mapM λf=>do pure (f.offset,<-sizeOf f.type):Sem (Array (Nat×Nat))).run P w=.ok pl.toArray w:=by
    rw[Array.mapM_eq_mapM_toList]
    simp only[Sem.run_map,a7D hpl,Result.andThen_ok]
   simp only[Instr.build,Sem.run_bind,a7B hi hzz,Result.andThen_ok,run_underlying hu,hmap]
   have:(ps.map λ(i,x)=>(i,a.eval x)).toList=ps.toList.map λp=>(p.1,a.eval p.2):=by simp
   rw[this,f1]
   rfl
  ·cases h
 ·rename_i zs' n e hz hu
  split at h
  ·simp only[g7E] at h
   obtain⟨l',hl',heq⟩:=h
   cases heq
  ·cases h
 ·cases h
theorem a7H {t:TypeId} {ps:Array (Nat×Operand)} {zs:List T} {l:List (Nat×Nat×Opd)} (hf:FRep tb.fx G w nt a fr) (h:a2O P tb nt t ps.toList=some (.bldz zs l)) :
  ps.toList.length=l.length/\∀ (i:Nat) (p:Nat×Operand) (q:Nat×Nat×Opd),ps.toList[i]?=some p->l[i]?=some q->PRep tb.fx G w (a.eval p.2) (q.2.2.ev fr):=by
 unfold a2O at h
 split at h
 ·split at h
  ·simp only[g7E] at h
   obtain⟨l',hl',heq⟩:=h
   unfold a2N at heq
   split at heq
   case isFalse=>cases heq
   injection heq with e1 e2
   subst e1 e2
   obtain⟨q1,q2⟩:=a7E hl'
   exact⟨by simpa using q1,λi p q hp hq=>a4H (q2 i p q hp hq).2 hf⟩
  ·cases h
 ·split at h
  ·simp only[g7E] at h
   obtain⟨l',hl',heq⟩:=h
   cases heq
  ·cases h
 ·cases h
end Go.Pi

/- PI 12: literals of slices, bytes of a string, make, append. -/
namespace Go.Pi
variable {P:Program} {tb:Tb} {fx:List (Nat×Nat)} {gl:Nat->Option (List T)} {G:Gh} {w:World} {sg:Sg} {ow:Ow} {nt:Nat} {a:Act} {fr:List PV}
theorem a7I {α:Type} (z:List α) (sz:Nat) (hz:z.length=sz):∀ (n k:Nat),k < n * sz->(List.replicate n z).flatten[k]?=z[k % sz]?:=by
 intro n
 induction n with
 |zero=>intro k hk;simp at hk
 |succ n ih =>
  intro k hk
  rw[List.replicate_succ,g5H]
  rcases g6X k sz with hlt|hge
  ·rw[g5J (by omega),Nat.mod_eq_of_lt hlt]
  ·rw[g5K (by omega),hz,ih (k - sz) (by rw[g6Q] at hk;omega),Nat.mod_eq_sub_mod hge]
theorem a7J {zs:List T} {z:Array Value} {sz n:Nat} (hz:zs.length=sz) (hsz:0 < sz) (hl:z.size=zs.length) (hr:∀ (j:Nat) (v:Value) (x:T),z[j]?=some v->zs[j]?=some x->∀ (st:Nat->Nat->Prop) (w:World),TRep st w v x) :
  CRep fx G w ((Array.range (n * sz)).map (z[· % z.size]!)) ((List.replicate n zs).flatten.map .t):=by
 refine⟨by simp [hz],λj u y hu hy=>?_⟩
 simp only[g5P,g7E] at hy
 obtain⟨q,hq,rfl⟩:=hy
 have hj:j < n * sz:=by
  have:=(g5O.1 hq).1
  simpa [hz] using this
 rw[a7I zs sz hz n j hj] at hq
 simp only[Array.getElem?_map,Array.getElem?_range,hj,if_true,g7F,g7G] at hu
 have hm:j % z.size < z.size:=Nat.mod_lt _ (by omega)
 have hzz:z.size=sz:=by omega
 subst hu
 refine .t (hr (j % sz) _ q ?_ hq _ _)
 rw[hzz] at hm ⊢
 simp [hm,hzz]
theorem a7K {u:Value} {x:PV} {y:T} (hu:PRep fx G w u x) (h:close1 x=some y):TRep G.st w u y:=by
 unfold close1 at h
 split at h <;> simp only[g7G,reduceCtorEq] at h <;> subst h
 ·exact hu.t_inv
 ·cases hu with|cp _ _ h=>exact h
 ·cases hu with|lit _ _ h=>exact h
 ·cases hu with|own _ _ _ _ _ _ h=>exact h
theorem a7L {x:PV} {y:T} (h:a0L x=some y):close1 x=some y/\y.isAgg=false:=by
 unfold a0L at h
 split at h
 ·rename_i z hz
  split at h
  ·cases h
  ·rename_i hq
   injection h with h
   subst h
   exact⟨hz,by simpa using hq⟩
 ·cases h
theorem a7M {u:Value} {x:PV} {y:T} (hu:PRep fx G w u x) (h:close x=some y):TRep G.st w u y:=by
 unfold close at h
 split at h
 ·simp only[g7E] at h
  obtain⟨ts,hts,rfl⟩:=h
  obtain⟨cs,rfl,hl,hr⟩:=hu.aggP_inv
  obtain⟨h1,h2⟩:=a4E _ _ _ hts
  refine .agg cs ts (by omega) λi v y hv hy=>?_
  have hlt:i < cs.size:=(g4P.1 hv).1
  have hx:=g5M (l:=_) (i:=i) (show i < _ by rw[<-hl];exact hlt)
  exact a7K (hr i v _ hv hx) (h2 i _ y hx hy)
 ·exact a7K hu h
theorem a7N (hi:Inv tb.fx gl G w sg ow) {t:TypeId} {len:Nat} {ps:Array (Nat×Operand)} {sz:Nat} {z:List T} {l:List (Nat×Opd)} {cs:List PV} {ts:List T} (hf:FRep tb.fx G w nt a fr) (h:a2P P tb nt t len ps.toList=some (.bsl sz len z l))
  (hfill:fillP ((List.replicate len z).flatten.map .t) (l.map λp=>(p.1 * sz,sz,p.2.ev fr))=some cs) (hts:cs.mapM a0L=some ts) :
  ∃ v G' w',(Instr.buildSlice t len (ps.map λ(i,x)=>(i,a.eval x))).run P w=.ok v w'/\Ext G w G' w'/\Inv tb.fx gl G' w' sg ow/\PRep tb.fx G' w' v (.lit (a0C sz len ts)):=by
 unfold a2P at h
 split at h
 ·rename_i e hu
  split at h
  ·rename_i s z' hs hz
   split at h
   ·rename_i hc
    simp only[g7E] at h
    obtain⟨l',hl',heq⟩:=h
    injection heq with e1 e2 e3 e4
    subst e1 e3
    obtain⟨c1,c2,c3⟩:=hc
    obtain⟨i,zv,hinf,hzz,hzl,hzr⟩:=a7A hz
    obtain⟨q1,q2⟩:=a7E hl'
    have hplace:∀ (i:Nat) (p:Nat×Operand) (q:Nat×Nat×Opd),ps.toList[i]?=some p->l'[i]?=some q->q.1=p.1/\q.2.1=s/\a1W tb nt p.2=some q.2.2:=λi p q hp hq=>by
     obtain⟨r1,r2⟩:=q2 i p q hp hq
     simp only[g7G,Prod.mk.injEq] at r1
     exact⟨r1.1.symm,r1.2.symm,r2⟩
    have hzero:CRep tb.fx G w ((Array.range (len * s)).map (zv.cells[· % zv.cells.size]!)) ((List.replicate len z').flatten.map .t):=a7J c2 c3 hzl hzr
    obtain⟨c',f1,f2⟩:=a6Y (fx:=tb.fx) (G:=G) (w:=w) (place:=λi=>some (i * s,s)) (ps.toList.map λp=>(p.1,a.eval p.2)) (l.map λp=>(p.1 * s,s,p.2.ev fr)) _ _ cs hzero (by rw[<-e4];simpa using q1) (λi p q hp hq=>by
     rw[<-e4] at hq
     simp only[g5P,g7E,List.map_map] at hp hq
     obtain⟨p',hp',rfl⟩:=hp
     obtain⟨q',hq',rfl⟩:=hq
     obtain⟨r1,r2,r3⟩:=hplace i p' q' hp' hq'
     simp only[Function.comp]
     exact⟨by rw[r1],a4H r3 hf⟩) hfill
    obtain⟨m1,m2⟩:=a4E _ _ _ hts
    have hno:∀ x∈ts,x.isAgg=false:=λx hx=>by
     obtain⟨i,hi'⟩:=g5Q hx
     have hlt:i < cs.length:=by rw[m1];exact(g5O.1 hi').1
     exact(a7L (m2 i _ x (g5M hlt) hi')).2
    have hts_len:ts.length=len * s:=by
     rw[<-m1]
     have hfl:∀ (qs:List (Nat×Nat×PV)) (c0 c1:List PV),fillP c0 qs=some c1->c1.length=c0.length:=by
      intro qs
      induction qs with
      |nil=>intro c0 c1 h;simp [fillP] at h;rw[h]
      |cons q qs ih =>
       intro c0 c1 h
       obtain⟨o,n,x⟩:=q
       simp only[fillP] at h
       split at h
       ·rw[ih _ _ h,a6V]
       ·cases h
     rw[hfl _ _ _ hfill]
     simp [c2]
    obtain⟨hE,hI⟩:=hi.newTree c' e (0,0) (len * s)
    refine⟨.slice (some ⟨w.heap.size,0,none⟩) len len,_,_,?_,hE,hI,?_⟩
    ·have hgt:¬len * s > 2 ^ 24:=by omega
     have hpl:(ps.map λ(p:Nat×Operand)=>(p.1,a.eval p.2)).toList=ps.toList.map λp=>(p.1,a.eval p.2):=by simp
     have hfin:∀ c0:Array Value,(Array.range (len * s)).map (c0[· % c0.size]!)=(Array.range (len * s)).map (zv.cells[· % zv.cells.size]!) ->
       (match Instr.fill (λi=>some (i * s,s)) ((Array.range (len * s)).map (c0[· % c0.size]!)) (ps.map λ(p:Nat×Operand)=>(p.1,a.eval p.2)).toList with
        |some cells=>(do pure (.slice (some (<-newRow e cells)) len len):Sem Value)
        | _ => stuck "buildSlice: a part of the wrong size").run P w = .ok (.slice (some ⟨w.heap.size, 0, none⟩) len len) (w.alloc (.cells c' e (0, 0))) := by
      intro c0 h0
      rw[h0,hpl,f1]
      simp [newRow]
     simp only[Instr.buildSlice,Sem.run_bind,run_underlying hu,Result.andThen_ok,a4U hs]
     rw[if_neg hgt]
     by_cases h0:len * s=0
     ·rw[if_pos h0]
      simp only[Sem.run_bind,Sem.run_pure,Result.andThen_ok]
      exact hfin #[] (by rw[h0];simp)
     ·rw[if_neg h0]
      simp only[Sem.run_bind,Sem.run_pure,Result.andThen_ok,a7B hinf hzz]
      exact hfin zv.cells rfl
    ·have hcl:(a0C s len ts).length=len:=a6P s len ts
     have hlit:TRep (λb o=>G.st b o\/(b=w.heap.size/\o < len * s)) (w.alloc (.cells c' e (0,0))) (.slice (some ⟨w.heap.size,0,none⟩) (a0C s len ts).length (a0C s len ts).length) (.sl false (a0C s len ts)):=by
      refine TRep.ofRow (sz:=s) (vs:=c'.toList) (a6Q s len ts (by omega)) (a6R hno) (g6U _) (a6S (by rw[g4R,f2.1,m1]) hts_len λi v y hv hy=>?_) (λj v hv=>?_) (λj hj=>.inr ⟨rfl,by rw[hcl] at hj;omega⟩)
      ·have hlt:i < cs.length:=by rw[m1];exact(g5O.1 hy).1
       have hx:=g5M hlt
       exact hE.trep (a7K (f2.2 i v _ (by simpa using hv) hx) (a7L (m2 i _ y hx hy)).1)
      ·rw[cell_of_row _ w.heap.size (0+j) c' e (0,0) (heap_alloc_new w _),g7A]
       simpa using hv
     rw[show Value.slice (some ⟨w.heap.size,0,none⟩) len len=Value.slice (some ⟨w.heap.size,0,none⟩) (a0C s len ts).length (a0C s len ts).length by rw[hcl]]
     refine .lit _ _ hlit ?_ (λi hi'=>?_) (λk x hk=>?_) ⟨c',e,(0,0),heap_alloc_new w _⟩
     ·exact hi.bsz
     ·have:=hi.mu_lt hi';omega
     ·have:=hi.tk_lt hk;omega
   ·cases h
  ·cases h
 ·cases h
end Go.Pi

/- PI 13: bytes of a string, make, append. -/
namespace Go.Pi
variable {P:Program} {tb:Tb} {fx:List (Nat×Nat)} {gl:Nat->Option (List T)} {G:Gh} {w:World} {sg:Sg} {ow:Ow} {nt:Nat} {a:Act} {fr:List PV}
theorem Ext.drew_l {G':Gh} {w':World} (hi:Inv fx gl G w sg ow) (h:Ext G w.drew G' w'):Ext G w G' w':=hi.drew.1.trans h
theorem a7O (s:List UInt8):(a0I s).length=s.length:=by simp [a0I]
theorem a7P (s:List UInt8):∀ e∈a0I s,e.length=1:=by
 intro e he
 simp only[a0I,List.mem_map] at he
 obtain⟨b,_,rfl⟩:=he
 rfl
theorem a7Q (s:List UInt8):∀ e,e∈a0I s->∀ x,x∈e->x.isAgg=false:=by
 intro e he x hx
 simp only[a0I,List.mem_map] at he
 obtain⟨b,_,rfl⟩:=he
 simp only[g6M] at hx
 subst hx
 rfl
theorem a7R (st:Nat->Nat->Prop) (w:World) (s:List UInt8):VRep st w 1 (a0I s) (s.map λb=>Value.int .u8 b.toNat):=by
 refine⟨by simp [a0I],λi j e y hi hj=>?_⟩
 simp only[a0I,g5P,g7E] at hi
 obtain⟨b,hb,rfl⟩:=hi
 have hj0:j=0:=by have:=(g5O.1 hj).1;simpa using this
 subst hj0
 simp only[List.getElem?_cons_zero,g7G] at hj
 subst hj
 exact⟨.int .u8 b.toNat,by simp [hb],.int _ _⟩
end Go.Pi
