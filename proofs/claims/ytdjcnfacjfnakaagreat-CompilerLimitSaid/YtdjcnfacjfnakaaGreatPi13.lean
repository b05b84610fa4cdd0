/- PI 10: the cells of slices, aggregates that are built, stores, bytes and strings. Program independent. -/
import Derived.Test.YtdjcnfacjfnakaaGreatPi9
import Derived.Laws.IdiomStrings
import Derived.Laws.Append
import Derived.Laws.MakeOwn
set_option linter.unusedSimpArgs false
set_option linter.unusedVariables false
namespace Go.Pi
variable {P:Program} {tb:Tb} {fx:List (Nat×Nat)} {gl:Nat→Option (List T)} {G:Gh} {w:World} {sg:Sg} {ow:Ow} {nt:Nat} {a:Act} {fr:List PV}
def VRep (st:Nat→Nat→Prop) (w:World) (sz:Nat) (es:List (List T)) (vs:List Value):Prop :=
 vs.length=es.length * sz∧∀ (i j:Nat) (e:List T) (y:T),es[i]?=some e→e[j]?=some y→∃ v,vs[i * sz+j]?=some v∧TRep st w v y
theorem VRep.nil (st:Nat→Nat→Prop) (w:World) (sz:Nat):VRep st w sz [] []:=⟨by simp,fun i j e y hi=>by simp at hi⟩
theorem VRep.mono {st st':Nat→Nat→Prop} {w w':World} {sz:Nat} {es:List (List T)} {vs:List Value} (h:VRep st w sz es vs) (hm:∀ v y,TRep st w v y→TRep st' w' v y):VRep st' w' sz es vs :=
 ⟨h.1,fun i j e y hi hj=>let ⟨v,h1,h2⟩:=h.2 i j e y hi hj;⟨v,h1,hm _ _ h2⟩⟩
theorem VRep.append {st:Nat→Nat→Prop} {w:World} {sz:Nat} {es es':List (List T)} {vs vs':List Value} (h:VRep st w sz es vs) (h':VRep st w sz es' vs'):VRep st w sz (es++es') (vs++vs'):=by
 refine⟨by simp [h.1,h'.1,g4Q],fun i j e y hi hj=>?_⟩
 rcases g4X i es.length with hlt|hge
 ·rw[g3I hlt] at hi
  obtain⟨v,h1,h2⟩:=h.2 i j e y hi hj
  refine⟨v,?_,h2⟩
  rw[g3I (g3N.1 h1).1]
  exact h1
 ·rw[g3J hge] at hi
  obtain⟨v,h1,h2⟩:=h'.2 (i - es.length) j e y hi hj
  refine⟨v,?_,h2⟩
  have he:i * sz+j=vs.length+((i - es.length) * sz+j):=by
   rw[h.1]
   have:i=es.length+(i - es.length):=by omega
   conv=>lhs;rw[this,g4Q]
   omega
  rw[he,g3J (by omega)]
  have:vs.length+((i - es.length) * sz+j) - vs.length=(i - es.length) * sz+j:=by omega
  rw[this]
  exact h1
theorem TRep.ofRow {st:Nat→Nat→Prop} {b o cap sz:Nat} {es:List (List T)} {vs:List Value} (hsz:∀ e∈es,e.length=sz) (ho:∀ e,e∈es→∀ x,x∈e→x.isAgg=false) (hcap:es.length≤cap) (hv:VRep st w sz es vs) (hc:∀ j v,vs[j]?=some v→w.cell? ⟨b,o+j,none⟩=some v)
  (hs:∀ j,j < es.length * sz→st b (o+j)):TRep st w (.slice (some ⟨b,o,none⟩) es.length cap) (.sl false es):=by
 refine .sl ⟨b,o,none⟩ cap sz es (fun i j=>vs.getD (i * sz+j) undef) hcap (fun _=>rfl) hsz ho ?_ ?_
 ·intro i j e x hi hj
  obtain⟨v,h1,_⟩:=hv.2 i j e x hi hj
  have:vs.getD (i * sz+j) undef=v:=by simp [List.getD,h1]
  simp only[this]
  refine⟨hc _ _ h1,hs _ ?_⟩
  rw[←hv.1]
  exact(g3N.1 h1).1
 ·intro i j e x hi hj
  obtain⟨v,h1,h2⟩:=hv.2 i j e x hi hj
  have:vs.getD (i * sz+j) undef=v:=by simp [List.getD,h1]
  rw[this]
  exact h2
theorem a7D {i n sz j:Nat} (hi:i < n) (hj:j < sz):i * sz+j < n * sz:=by
 have:(i+1) * sz≤n * sz:=g4Y _ hi
 rw[g4Q,Nat.one_mul] at this
 omega
theorem TRep.row {st:Nat→Nat→Prop} {ad:Option Addr} {n cap sz:Nat} {nl:Bool} {es:List (List T)} (h:TRep st w (.slice ad n cap) (.sl nl es)) (hall:∀ e∈es,e.length=sz) (hsz:0 < sz) :
  ∃ vs,VRep st w sz es vs∧(∀ e,e∈es→∀ x,x∈e→x.isAgg=false)∧(es≠[]→∃ b o,ad=some ⟨b,o,none⟩∧∀ j v,vs[j]?=some v→w.cell? ⟨b,o+j,none⟩=some v):=by
 generalize hv:Value.slice ad n cap=v at h
 generalize hx:T.sl nl es=x at h
 cases h <;> simp only[reduceCtorEq,Value.slice.injEq,T.sl.injEq] at hv hx
 ·obtain⟨rfl,rfl⟩:=hx
  exact⟨[],.nil _ _ _,by simp,fun h=>absurd rfl h⟩
 ·rename_i ad' cap' sz0 es' vs hcap hsp hsz0 ho hc hr
  obtain⟨rfl,rfl,rfl⟩:=hv
  obtain⟨rfl,rfl⟩:=hx
  by_cases hne:es=[]
  ·subst hne
   exact⟨[],.nil _ _ _,by simp,fun h=>absurd rfl h⟩
  ·have hszz:sz0=sz:=by
    cases hes:es with
    |nil=>exact absurd hes hne
    |cons e r=>rw[←hall e (by simp [hes]),hsz0 e (by simp [hes])]
   subst hszz
   have hspot:=hsp hne
   obtain⟨bb,oo,ss⟩:=ad'
   simp only at hspot
   subst hspot
   refine⟨(List.range (es.length * sz0)).map fun k=>vs (k / sz0) (k % sz0),⟨by simp,fun i j e y hi hj=>?_⟩,ho,fun _=>⟨bb,oo,rfl,fun k v hk=>?_⟩⟩
   ·have hil:i < es.length:=(g3N.1 hi).1
    have hjl:j < sz0:=by rw[←hsz0 e (g4K hi)];exact(g3N.1 hj).1
    refine⟨vs i j,?_,hr i j e y hi hj⟩
    rw[g3O,g3Q (a7D hil hjl)]
    have e1:(i * sz0+j) / sz0=i:=by rw[Nat.mul_comm,Nat.mul_add_div hsz,Nat.div_eq_of_lt hjl,g4R]
    have e2:(i * sz0+j) % sz0=j:=by rw[Nat.mul_comm,Nat.mul_add_mod,Nat.mod_eq_of_lt hjl]
    simp [e1,e2]
   ·rw[g3O,g5E] at hk
    obtain⟨q,hq,rfl⟩:=hk
    have hkl:k < es.length * sz0:=by
     rcases g4X k (es.length * sz0) with h|h
     ·exact h
     ·rw[g3M (by simpa using h)] at hq;cases hq
    rw[g3Q hkl] at hq
    injection hq with hq
    subst hq
    have hi:k / sz0 < es.length:=Nat.div_lt_of_lt_mul (by rw[Nat.mul_comm];exact hkl)
    have he:=g3L hi
    have hl:=hsz0 _ (g4K he)
    have hj:k % sz0 < (es[k / sz0]).length:=by rw[hl];exact Nat.mod_lt _ hsz
    have:=(hc (k / sz0) (k % sz0) _ _ he (g3L hj)).1
    simp only at this
    rw[Nat.mul_comm,Nat.div_add_mod] at this
    exact this
theorem a7E (sz:Nat):∀ (n:Nat) (l:List T) (i:Nat) (e:List T),(a0C sz n l)[i]?=some e→i < n∧e=(l.drop (i * sz)).take sz:=by
 intro n
 induction n with
 |zero=>intro l i e h;simp [a0C] at h
 |succ n ih =>
  intro l i e h
  cases i with
  |zero=>simp [a0C] at h;simp [h]
  |succ i =>
   simp only[a0C,List.getElem?_cons_succ] at h
   obtain⟨h1,h2⟩:=ih _ _ _ h
   refine⟨by omega,?_⟩
   rw[h2,g3D]
   congr 2
   rw[g4Q];omega
theorem a7F (sz:Nat):∀ (n:Nat) (l:List T),(a0C sz n l).length=n:=by
 intro n
 induction n with
 |zero=>intro l;rfl
 |succ n ih=>intro l;simp [a0C,ih]
theorem a7G (sz n:Nat) (l:List T) (h:n * sz≤l.length):∀ e∈a0C sz n l,e.length=sz:=by
 intro e he
 obtain⟨i,hi⟩:=g3P he
 obtain⟨h1,rfl⟩:=a7E sz n l i e hi
 have:(i+1) * sz≤n * sz:=g4Y _ h1
 rw[g4Q,Nat.one_mul] at this
 simp
 omega
theorem a7H {sz n:Nat} {l:List T} (h:∀ x∈l,x.isAgg=false):∀ e,e∈a0C sz n l→∀ x,x∈e→x.isAgg=false:=by
 intro e he x hx
 obtain⟨i,hi⟩:=g3P he
 obtain⟨_,rfl⟩:=a7E sz n l i e hi
 exact h x (List.mem_of_mem_drop (List.mem_of_mem_take hx))
theorem a7I {st:Nat→Nat→Prop} {sz n:Nat} {ts:List T} {vs:List Value} (hl:vs.length=ts.length) (hn:ts.length=n * sz) (hr:∀ (i:Nat) (v:Value) (y:T),vs[i]?=some v→ts[i]?=some y→TRep st w v y):VRep st w sz (a0C sz n ts) vs:=by
 refine⟨by rw[hl,hn,a7F],fun i j e y hi hj=>?_⟩
 obtain⟨h1,rfl⟩:=a7E sz n ts i e hi
 rw[g3T,g3K] at hj
 split at hj
 ·have hlt:i * sz+j < ts.length:=(g3N.1 hj).1
  exact⟨vs[i * sz+j]'(by omega),g3L (by omega),hr _ _ _ (g3L (by omega)) hj⟩
 ·cases hj
theorem a7J (hi:Inv fx gl G w sg ow) {u:Value} {id off len sz' sz:Nat} {es:List (List T)} (hu:PRep fx G w u (.ls id off len sz')) (h:a0K sg sz id off len sz'=some es) (hall:∀ e∈es,e.length=sz) (hsz:0 < sz) :
  ∃ ad cap vs,u=.slice ad es.length cap∧VRep G.st w sz es vs∧(∀ e,e∈es→∀ x,x∈e→x.isAgg=false)∧(es≠[]→∃ b o,ad=some ⟨b,o,none⟩∧∀ j v,vs[j]?=some v→w.cell? ⟨b,o+j,none⟩=some v):=by
 unfold a0K at h
 ·split at h
  ·rename_i hszz
   subst hszz
   split at h
   ·rename_i cs hs
    split at h
    ·rename_i hb
     split at h
     case h_2=>cases h
     rename_i ts hts
     split at h
     ·cases h
     rename_i hagg
     injection h with h
     subst h
     have hcs:=a5B hts
     have hno:∀ x∈ts,x.isAgg=false:=fun x hx=>by
      cases hq:x.isAgg with
      |false=>rfl
      |true=>exact absurd (g2Z.2 ⟨x,hx,hq⟩) hagg
     cases hu with|ls _ _ _ _ cap b ad hmu hcap ha =>
     obtain⟨c,t,z,e1,e2,e3,_⟩:=hi.blk id b cs hmu hs
     have htl:ts.length=len * sz':=by
      have:=congrArg List.length hcs
      simp at this
      omega
     refine⟨some ad,cap,(c.toList.drop off).take (len * sz'),by rw[a7F],a7I (by simp [htl];omega) htl ?_,a7H hno,fun hne=>?_⟩
     ·intro i v y hv hy
      rw[g3T,g3K] at hv
      split at hv
      ·rename_i hlt
       have hy':cs[off+i]?=some (.t y):=by
        have:=congrArg (fun l:List PV=>l[i]?) hcs
        simp only[g3T,g3K,if_pos hlt,g3O,hy,g5F] at this
        exact this
       have:=e3 (off+i) v (.t y) (by simpa using hv) hy'
       exact this.t_inv
      ·cases hv
     ·rcases ha with ha|rfl
      ·subst ha;simp [a0C] at hne
      ·refine⟨b,off,rfl,fun j v hv=>?_⟩
       rw[g3T,g3K] at hv
       split at hv
       ·rw[cell_of_row w b (off+j) c t z e1]
        simpa using hv
       ·cases hv
    ·cases h
   ·cases h
  ·cases h
theorem a7K (hi:Inv fx gl G w sg ow) {u:Value} {x:PV} {sz:Nat} {es:List (List T)} (hu:PRep fx G w u x) (h:a0L sg sz x=some es) (hall:∀ e∈es,e.length=sz) (hsz:0 < sz) :
  ∃ ad cap vs,u=.slice ad es.length cap∧VRep G.st w sz es vs∧(∀ e,e∈es→∀ x,x∈e→x.isAgg=false)∧(es≠[]→∃ b o,ad=some ⟨b,o,none⟩∧∀ j v,vs[j]?=some v→w.cell? ⟨b,o+j,none⟩=some v):=by
 unfold a0L at h
 split at h
 ·exact a7J hi hu h hall hsz
 ·exact a7J hi hu.bf_ls h hall hsz
 ·obtain⟨⟨nl,htr⟩,ad,cap,rfl⟩:=a6J hu h
  obtain⟨vs,h1,h2,h3⟩:=htr.row hall hsz
  exact⟨ad,cap,vs,rfl,h1,h2,h3⟩
theorem a7L {es:List (List T)} {s:List UInt8} (h:a0J es=some s):(∀ e∈es,e.length=1)∧es.length=s.length∧∃ ns:List Int,ns.length=es.length∧s=ns.map (fun n=>UInt8.ofNat n.toNat)∧∀ (i:Nat) (n:Int),ns[i]?=some n→es[i]?=some [T.int .u8 n]:=by
 induction es generalizing s with
 |nil=>simp [a0J] at h;subst h;exact⟨by simp,rfl,[],by simp⟩
 |cons e r ih =>
  unfold a0J at h
  split at h
  ·rename_i heq;cases heq
  ·rename_i n r' heq
   injection heq with h1 h2
   subst h1 h2
   simp only[g5E] at h
   obtain⟨s',hs',rfl⟩:=h
   obtain⟨q1,q2,ns,q3,q4,q5⟩:=ih hs'
   refine⟨fun e he=>?_,by simp [q2],n::ns,by simp [q3],by simp [q4],fun i m hm=>?_⟩
   ·rcases g4G.1 he with rfl|he
    ·rfl
    ·exact q1 e he
   ·cases i with
    |zero=>simp at hm;subst hm;rfl
    |succ i=>simp at hm ⊢;exact q5 i m hm
  ·cases h
theorem a7M (ns:List Int):∀ r:ByteArray,(ns.foldl (fun r n=>r.push (UInt8.ofNat n.toNat)) r).data.toList=r.data.toList++ns.map (fun n=>UInt8.ofNat n.toNat):=by
 induction ns with
 |nil=>intro r;simp
 |cons n ns ih=>intro r;rw[List.foldl_cons,ih];simp [ByteArray.push]
theorem a7N (hi:Inv fx gl G w sg ow) {src dst e:TypeId} {u:Value} {x:PV} {es:List (List T)} {s:List UInt8} (hs:P.underlying src=some (.slice e)) (he:P.underlying e=some (.int .u8)) (hd:P.underlying dst=some .string)
  (hu:PRep fx G w u x) (h1:a0L sg 1 x=some es) (h2:a0J es=some s):∃ v,(convert src dst u).run P w=.ok v w∧PRep fx G w v (.t (.str s)):=by
 obtain⟨q1,q2,ns,q3,q4,q5⟩:=a7L h2
 obtain⟨ad,cap,vs,rfl,hv,_,hc⟩:=a7K hi hu h1 q1 (by omega)
 rw[run_convert_bytes_string w src dst e ad es.length cap hs he hd]
 have hvs:vs=ns.map (Value.int .u8):=by
  apply List.ext_getElem?
  intro i
  rcases g4X i ns.length with hlt|hge
  ·have hn:=g3L hlt
   have hes:=q5 i _ hn
   obtain⟨v,e1,e2⟩:=hv.2 i 0 _ _ hes (by rfl)
   rw[g4Z,g4R] at e1
   rw[e1,g3O,hn]
   cases e2
   rfl
  ·rw[g3M (by rw[hv.1];omega),g3M (by simpa using hge)]
 by_cases hne:es=[]
 ·subst hne
  have hn0:ns=[]:=g3F (by simpa using q3)
  subst hn0
  cases ad with
  |none=>exact⟨.string .empty,by rfl,.tstr (by simp [q4])⟩
  |some q =>
   refine⟨_,run_bytesToString w q 0 cap [] (by rfl),.tstr (by rw[q4];rfl)⟩
 ·obtain⟨b,o,rfl,hcell⟩:=hc hne
  refine⟨_,run_bytesToString w ⟨b,o,none⟩ es.length cap ns ?_,.tstr (by rw[a7M,q4];rfl)⟩
  have:=run_loadCells_list (P:=P) w ⟨b,o,none⟩ vs (fun j v hj=>by rw[a5K];exact hcell j v hj)
  rw[hv.1,g4Z] at this
  rw[this,hvs]
end Go.Pi

/- PI 11: aggregates and slices that are built; stores; new variables. Program independent. -/
namespace Go.Pi
variable {P:Program} {tb:Tb} {fx:List (Nat×Nat)} {gl:Nat→Option (List T)} {G:Gh} {w:World} {sg:Sg} {ow:Ow} {nt:Nat} {a:Act} {fr:List PV}
def CRep (fx:List (Nat×Nat)) (G:Gh) (w:World) (c:Array Value) (cs:List PV):Prop :=
 c.size=cs.length∧∀ (j:Nat) (u:Value) (y:PV),c[j]?=some u→cs[j]?=some y→PRep fx G w u y
theorem a7O (cs:List PV) (off:Nat) (vs:List PV):(setRange cs off vs).length=cs.length:=by
 induction vs generalizing cs off with
 |nil=>rfl
 |cons v r ih=>simp [setRange,ih]
theorem a7P (cs:List PV) (off:Nat) (vs:List PV) (hb:off+vs.length≤cs.length) (j:Nat):(setRange cs off vs)[j]?=if off≤j∧j < off+vs.length then vs[j - off]? else cs[j]?:=by
 induction vs generalizing cs off with
 |nil=>simp [setRange];intros;omega
 |cons v r ih =>
  simp only[g3W] at hb
  rw[setRange,ih (cs.set off v) (off+1) (by simp;omega)]
  by_cases h1:off+1≤j∧j < off+1+r.length
  ·rw[if_pos h1,if_pos (by simp only[g3W];omega)]
   have:j - off=(j - (off+1))+1:=by omega
   rw[this,List.getElem?_cons_succ]
  ·rw[if_neg h1]
   by_cases h2:j=off
   ·subst h2
    rw[if_pos (by simp only[g3W];omega),g3S (by omega)]
    simp
   ·rw[if_neg (by simp only[g3W];omega),g3R (fun e=>h2 e.symm)]
theorem CRep.set {c d:Array Value} {cs ds:List PV} (h:CRep fx G w c cs) (hd:CRep fx G w d ds) {off:Nat} (hb:off+ds.length≤cs.length):CRep fx G w (a4I c off d.toList) (setRange cs off ds):=by
 have hb':off+d.toList.length≤c.size:=by rw[g2Q,hd.1,h.1];exact hb
 refine⟨by rw[a4J,a7O,h.1],fun j u y hu hy=>?_⟩
 rw[a4K c off d.toList hb' j] at hu
 rw[a7P cs off ds hb j] at hy
 rw[g2Q,hd.1] at hu
 split at hu
 ·rename_i hj
  rw[if_pos hj] at hy
  exact hd.2 (j - off) u y (by simpa using hu) hy
 ·rename_i hj
  rw[if_neg hj] at hy
  exact h.2 j u y hu hy
theorem a7Q (l:List Value):∀ (k off:Nat) (c:Array Value),(l.zipIdx k).foldl (fun cs (p:Value×Nat)=>cs.setIfInBounds (off+p.2) p.1) c=a4I c (off+k) l:=by
 induction l with
 |nil=>intro k off c;rfl
 |cons v r ih=>intro k off c;rw[List.zipIdx_cons,List.foldl_cons,ih,a4I];simp only[Nat.add_assoc]
theorem a7R {place:Nat→Option (Nat×Nat)}:∀ (ps:List (Nat×Value)) (qs:List (Nat×Nat×PV)) (c:Array Value) (cs cs':List PV),CRep fx G w c cs→ps.length=qs.length →
  (∀ (i:Nat) (p:Nat×Value) (q:Nat×Nat×PV),ps[i]?=some p→qs[i]?=some q→place p.1=some (q.1,q.2.1)∧PRep fx G w p.2 q.2.2)→fillP cs qs=some cs'→∃ c',Instr.fill place c ps=some c'∧CRep fx G w c' cs':=by
 intro ps
 induction ps with
 |nil =>
  intro qs c cs cs' hc hl _ h
  obtain rfl:=g3F hl.symm
  simp only[fillP,g5G] at h
  subst h
  exact⟨c,rfl,hc⟩
 |cons p ps ih =>
  intro qs c cs cs' hc hl hp h
  cases qs with
  |nil=>simp at hl
  |cons q qs =>
   obtain⟨i,v⟩:=p
   obtain⟨off,n,x⟩:=q
   obtain⟨h1,h2⟩:=hp 0 _ _ rfl rfl
   simp only at h1 h2
   simp only[fillP] at h
   split at h
   ·rename_i hcond
    have hcr:=a5A h2
    have hset:=CRep.set (off:=off) hc hcr (by omega)
    obtain⟨c',e1,e2⟩:=ih qs (a4I c off v.cells.toList) _ cs' hset (by simpa using hl) (fun i p q hp' hq'=>hp (i+1) p q (by simpa using hp') (by simpa using hq')) h
    refine⟨c',?_,e2⟩
    have hc1:v.cells.size=n:=by rw[hcr.1];exact hcond.1
    have hc2:off+v.cells.size≤c.size:=by rw[hc1,hc.1];exact hcond.2
    have hfold:v.cells.zipIdx.foldl (fun cs (c,j)=>cs.setIfInBounds (off+j) c) c=a4I c off v.cells.toList:=by
     rw[←Array.foldl_toList,Array.toList_zipIdx]
     have:=a7Q v.cells.toList 0 off c
     simpa using this
    simp only[Instr.fill,h1]
    rw[if_neg (by simp [hc1];omega),hfold]
    exact e1
   ·cases h
theorem a7S {l:List Value} {ts:List T} (h:a2J l=some ts):l.length=ts.length∧∀ (i:Nat) (v:Value) (x:T),l[i]?=some v→ts[i]?=some x→a2A v=some x:=by
 induction l generalizing ts with
 |nil=>simp [a2J] at h;subst h;simp
 |cons v r ih =>
  simp only[a2J] at h
  split at h
  ·rename_i x xs h1 h2
   injection h with h
   subst h
   obtain⟨e1,e2⟩:=ih h2
   refine⟨by simp [e1],fun i u y hu hy=>?_⟩
   cases i with
   |zero=>simp at hu hy;subst hu hy;exact h1
   |succ i=>simp at hu hy;exact e2 i u y hu hy
  ·cases h
theorem a7T {t:TypeId} {zs:List T} (h:a2K P t=some zs):∃ i z,P.info? t=some i∧i.zero=some z∧z.cells.size=zs.length∧∀ (j:Nat) (v:Value) (x:T),z.cells[j]?=some v→zs[j]?=some x→∀ (st:Nat→Nat→Prop) (w:World),TRep st w v x:=by
 unfold a2K at h
 split at h
 ·rename_i i hi
  split at h
  ·rename_i z hz
   obtain⟨h1,h2⟩:=a7S h
   exact⟨i,z,hi,hz,by simpa using h1,fun j v x hv hx st w=>a4R (h2 j v x (by simpa using hv) hx)⟩
  ·cases h
 ·cases h
theorem a7U {t:TypeId} {i:TypeInfo} {z:Value} (hi:P.info? t=some i) (hz:i.zero=some z) (w:World):(zeroValue t).run P w=.ok z w:=by simp [zeroValue,a5H hi,hz]
theorem a7V {zs:List T} {z:Value} (hl:z.cells.size=zs.length) (hr:∀ (j:Nat) (v:Value) (x:T),z.cells[j]?=some v→zs[j]?=some x→∀ (st:Nat→Nat→Prop) (w:World),TRep st w v x):CRep fx G w z.cells (zs.map .t) :=
 ⟨by simpa using hl,fun j u y hu hy=>by
  simp only[g3O,g5E] at hy
  obtain⟨q,hq,rfl⟩:=hy
  exact .t (hr j u q hu hq _ _)⟩
theorem a7W {fs:List Field} {pl:List (Nat×Nat)} (h:a2T P fs=some pl) (w:World):(fs.mapM fun f=>do pure (f.offset,←sizeOf f.type):Sem (List (Nat×Nat))).run P w=.ok pl w:=by
 induction fs generalizing pl with
 |nil=>simp [a2T] at h;subst h;simp
 |cons f r ih =>
  simp only[a2T] at h
  split at h
  ·rename_i s l h1 h2
   injection h with h
   subst h
   rw[g4B]
   simp only[Sem.run_bind,a5I h1,Result.andThen_ok,Sem.run_pure,ih h2]
  ·cases h
theorem a7X {place:Nat→Option (Nat×Nat)} {ps:List (Nat×Operand)} {qs:List (Nat×Nat×Opd)} (h:a2S tb nt place ps=some qs):ps.length=qs.length ∧
  ∀ (i:Nat) (p:Nat×Operand) (q:Nat×Nat×Opd),ps[i]?=some p→qs[i]?=some q→place p.1=some (q.1,q.2.1)∧a2D tb nt p.2=some q.2.2:=by
 induction ps generalizing qs with
 |nil=>simp [a2S] at h;subst h;simp
 |cons p r ih =>
  obtain⟨i,x⟩:=p
  simp only[a2S] at h
  split at h
  ·rename_i o s y l h1 h2 h3
   injection h with h
   subst h
   obtain⟨e1,e2⟩:=ih h3
   refine⟨by simp [e1],fun j p q hp hq=>?_⟩
   cases j with
   |zero=>simp at hp hq;subst hp hq;exact⟨h1,h2⟩
   |succ j=>simp at hp hq;exact e2 j p q hp hq
  ·cases h
theorem a7Y {t:TypeId} {ps:Array (Nat×Operand)} {zs:List T} {l:List (Nat×Nat×Opd)} {cs:List PV} (hf:FRep tb.fx G w nt a fr) (h:a2V P tb nt t ps.toList=some (.build zs l))
  (hfill:fillP (zs.map .t) (l.map fun p=>(p.1,p.2.1,p.2.2.ev fr))=some cs) :
  ∃ v,(Instr.build t (ps.map fun (i,x)=>(i,a.eval x))).run P w=.ok v w∧PRep tb.fx G w v (mkAgg cs):=by
 unfold a2V at h
 split at h
 ·rename_i zs' fs hz hu
  split at h
  ·rename_i pl hpl
   simp only[g5E] at h
   obtain⟨l',hl',heq⟩:=h
   unfold a2U at heq
   split at heq
   ·cases heq
   injection heq with e1 e2
   subst e1 e2
   obtain⟨i,z,hi,hzz,hzl,hzr⟩:=a7T hz
   obtain⟨q1,q2⟩:=a7X hl'
   obtain⟨c',f1,f2⟩:=a7R (fx:=tb.fx) (G:=G) (w:=w) (place:=(pl.toArray[·]?)) (ps.toList.map fun p=>(p.1,a.eval p.2)) (l'.map fun p=>(p.1,p.2.1,p.2.2.ev fr)) z.cells (zs'.map .t) cs (a7V hzl hzr) (by simpa using q1) (fun i p q hp hq=>by
    simp only[g3O,g5E] at hp hq
    obtain⟨p',hp',rfl⟩:=hp
    obtain⟨q',hq',rfl⟩:=hq
    obtain⟨r1,r2⟩:=q2 i p' q' hp' hq'
    exact⟨by simpa using r1,a4V r2 hf⟩) hfill
   refine⟨.agg c',?_,a5D f2.1 f2.2⟩
   have hmap:(fs.mapM fun f=>do pure (f.offset,←sizeOf f.type):Sem (Array (Nat×Nat))).run P w=.ok pl.toArray w:=by
    rw[Array.mapM_eq_mapM_toList]
    simp only[Sem.run_map,a7W hpl,Result.andThen_ok]
   simp only[Instr.build,Sem.run_bind,a7U hi hzz,Result.andThen_ok,run_underlying hu,hmap]
   have:(ps.map fun (i,x)=>(i,a.eval x)).toList=ps.toList.map fun p=>(p.1,a.eval p.2):=by simp
   rw[this,f1]
   rfl
  ·cases h
 ·rename_i zs' n e hz hu
  split at h
  ·rename_i s hs
   simp only[g5E] at h
   obtain⟨l',hl',heq⟩:=h
   injection heq with e1 e2
   subst e1 e2
   obtain⟨i,z,hi,hzz,hzl,hzr⟩:=a7T hz
   obtain⟨q1,q2⟩:=a7X hl'
   obtain⟨c',f1,f2⟩:=a7R (fx:=tb.fx) (G:=G) (w:=w) (place:=fun i=>some (i * s,s)) (ps.toList.map fun p=>(p.1,a.eval p.2)) (l'.map fun p=>(p.1,p.2.1,p.2.2.ev fr)) z.cells (zs'.map .t) cs (a7V hzl hzr) (by simpa using q1) (fun i p q hp hq=>by
    simp only[g3O,g5E] at hp hq
    obtain⟨p',hp',rfl⟩:=hp
    obtain⟨q',hq',rfl⟩:=hq
    obtain⟨r1,r2⟩:=q2 i p' q' hp' hq'
    exact⟨r1,a4V r2 hf⟩) hfill
   refine⟨.agg c',?_,a5D f2.1 f2.2⟩
   simp only[Instr.build,Sem.run_bind,a7U hi hzz,Result.andThen_ok,run_underlying hu,a5I hs]
   have:(ps.map fun (i,x)=>(i,a.eval x)).toList=ps.toList.map fun p=>(p.1,a.eval p.2):=by simp
   rw[this,f1]
   rfl
  ·cases h
 ·cases h
theorem a7Z {t:TypeId} {ps:Array (Nat×Operand)} {zs:List T} {l:List (Nat×Nat×Opd)} {cs vs:List PV} (h:a2V P tb nt t ps.toList=some (.bldz zs l)) (hlen:vs.length=l.length)
  (hval:∀ (i:Nat) (p:Nat×Operand) (v:PV),ps.toList[i]?=some p→vs[i]?=some v→PRep tb.fx G w (a.eval p.2) v)
  (hfill:fillP (zs.map .t) ((l.zip vs).map fun p=>(p.1.1,p.1.2.1,p.2))=some cs) :
  ∃ v,(Instr.build t (ps.map fun (i,x)=>(i,a.eval x))).run P w=.ok v w∧PRep tb.fx G w v (mkAgg cs):=by
 unfold a2V at h
 split at h
 ·rename_i zs' fs hz hu
  split at h
  ·rename_i pl hpl
   simp only[g5E] at h
   obtain⟨l',hl',heq⟩:=h
   unfold a2U at heq
   split at heq
   case isFalse=>cases heq
   injection heq with e1 e2
   subst e1 e2
   obtain⟨i,z,hi,hzz,hzl,hzr⟩:=a7T hz
   obtain⟨q1,q2⟩:=a7X hl'
   obtain⟨c',f1,f2⟩:=a7R (fx:=tb.fx) (G:=G) (w:=w) (place:=(pl.toArray[·]?)) (ps.toList.map fun p=>(p.1,a.eval p.2)) ((l'.zip vs).map fun p=>(p.1.1,p.1.2.1,p.2)) z.cells (zs'.map .t) cs (a7V hzl hzr) (by simp only[g3X,List.length_zip];omega) (fun i p q hp hq=>by
    simp only[g3O,g5E] at hp hq
    obtain⟨p',hp',rfl⟩:=hp
    obtain⟨⟨q',v'⟩,hq',rfl⟩:=hq
    rw[List.getElem?_zip_eq_some] at hq'
    obtain⟨r1,r2⟩:=q2 i p' q' hp' hq'.1
    exact⟨by simpa using r1,hval i p' v' hp' hq'.2⟩) hfill
   refine⟨.agg c',?_,a5D f2.1 f2.2⟩
   have hmap:(fs.mapM fun f=>do pure (f.offset,←sizeOf f.type):Sem (Array (Nat×Nat))).run P w=.ok pl.toArray w:=by
    rw[Array.mapM_eq_mapM_toList]
    simp only[Sem.run_map,a7W hpl,Result.andThen_ok]
   simp only[Instr.build,Sem.run_bind,a7U hi hzz,Result.andThen_ok,run_underlying hu,hmap]
   have:(ps.map fun (i,x)=>(i,a.eval x)).toList=ps.toList.map fun p=>(p.1,a.eval p.2):=by simp
   rw[this,f1]
   rfl
  ·cases h
 ·rename_i zs' n e hz hu
  split at h
  ·simp only[g5E] at h
   obtain⟨l',hl',heq⟩:=h
   cases heq
  ·cases h
 ·cases h
theorem a8A {t:TypeId} {ps:Array (Nat×Operand)} {zs:List T} {l:List (Nat×Nat×Opd)} (hf:FRep tb.fx G w nt a fr) (h:a2V P tb nt t ps.toList=some (.bldz zs l)) :
  ps.toList.length=l.length∧∀ (i:Nat) (p:Nat×Operand) (q:Nat×Nat×Opd),ps.toList[i]?=some p→l[i]?=some q→PRep tb.fx G w (a.eval p.2) (q.2.2.ev fr):=by
 unfold a2V at h
 split at h
 ·split at h
  ·simp only[g5E] at h
   obtain⟨l',hl',heq⟩:=h
   unfold a2U at heq
   split at heq
   case isFalse=>cases heq
   injection heq with e1 e2
   subst e1 e2
   obtain⟨q1,q2⟩:=a7X hl'
   exact⟨by simpa using q1,fun i p q hp hq=>a4V (q2 i p q hp hq).2 hf⟩
  ·cases h
 ·split at h
  ·simp only[g5E] at h
   obtain⟨l',hl',heq⟩:=h
   cases heq
  ·cases h
 ·cases h
end Go.Pi

/- PI 12: literals of slices, bytes of a string, make, append. Program independent. -/
namespace Go.Pi
variable {P:Program} {tb:Tb} {fx:List (Nat×Nat)} {gl:Nat→Option (List T)} {G:Gh} {w:World} {sg:Sg} {ow:Ow} {nt:Nat} {a:Act} {fr:List PV}
theorem a8B {α:Type} (z:List α) (sz:Nat) (hz:z.length=sz):∀ (n k:Nat),k < n * sz→(List.replicate n z).flatten[k]?=z[k % sz]?:=by
 intro n
 induction n with
 |zero=>intro k hk;simp at hk
 |succ n ih =>
  intro k hk
  rw[List.replicate_succ,g3G]
  rcases g4X k sz with hlt|hge
  ·rw[g3I (by omega),Nat.mod_eq_of_lt hlt]
  ·rw[g3J (by omega),hz,ih (k - sz) (by rw[g4Q] at hk;omega),Nat.mod_eq_sub_mod hge]
theorem a8C {zs:List T} {z:Array Value} {sz n:Nat} (hz:zs.length=sz) (hsz:0 < sz) (hl:z.size=zs.length) (hr:∀ (j:Nat) (v:Value) (x:T),z[j]?=some v→zs[j]?=some x→∀ (st:Nat→Nat→Prop) (w:World),TRep st w v x) :
  CRep fx G w ((Array.range (n * sz)).map (z[· % z.size]!)) ((List.replicate n zs).flatten.map .t):=by
 refine⟨by simp [hz],fun j u y hu hy=>?_⟩
 simp only[g3O,g5E] at hy
 obtain⟨q,hq,rfl⟩:=hy
 have hj:j < n * sz:=by
  have:=(g3N.1 hq).1
  simpa [hz] using this
 rw[a8B zs sz hz n j hj] at hq
 simp only[Array.getElem?_map,Array.getElem?_range,hj,if_true,g5F,g5G] at hu
 have hm:j % z.size < z.size:=Nat.mod_lt _ (by omega)
 have hzz:z.size=sz:=by omega
 subst hu
 refine .t (hr (j % sz) _ q ?_ hq _ _)
 rw[hzz] at hm ⊢
 simp [hm,hzz]
theorem a8D {u:Value} {x:PV} {y:T} (hu:PRep fx G w u x) (h:close1 x=some y):TRep G.st w u y:=by
 unfold close1 at h
 split at h <;> simp only[g5G,reduceCtorEq] at h <;> subst h
 ·exact hu.t_inv
 ·cases hu with|cp _ _ h=>exact h
 ·cases hu with|lit _ _ h=>exact h
 ·cases hu with|own _ _ _ _ _ _ h=>exact h
theorem a8E {x:PV} {y:T} (h:a0M x=some y):close1 x=some y∧y.isAgg=false:=by
 unfold a0M at h
 split at h
 ·rename_i z hz
  split at h
  ·cases h
  ·rename_i hq
   injection h with h
   subst h
   exact⟨hz,by simpa using hq⟩
 ·cases h
theorem a8F {u:Value} {x:PV} {y:T} (hu:PRep fx G w u x) (h:close x=some y):TRep G.st w u y:=by
 unfold close at h
 split at h
 ·simp only[g5E] at h
  obtain⟨ts,hts,rfl⟩:=h
  obtain⟨cs,rfl,hl,hr⟩:=hu.aggP_inv
  obtain⟨h1,h2⟩:=a4S _ _ _ hts
  refine .agg cs ts (by omega) fun i v y hv hy=>?_
  have hlt:i < cs.size:=(g2N.1 hv).1
  have hx:=g3L (l:=_) (i:=i) (show i < _ by rw[←hl];exact hlt)
  exact a8D (hr i v _ hv hx) (h2 i _ y hx hy)
 ·exact a8D hu h
theorem a8G (hi:Inv tb.fx gl G w sg ow) {t:TypeId} {len:Nat} {ps:Array (Nat×Operand)} {sz:Nat} {z:List T} {l:List (Nat×Opd)} {cs:List PV} {ts:List T} (hf:FRep tb.fx G w nt a fr) (h:a2W P tb nt t len ps.toList=some (.bsl sz len z l))
  (hfill:fillP ((List.replicate len z).flatten.map .t) (l.map fun p=>(p.1 * sz,sz,p.2.ev fr))=some cs) (hts:cs.mapM a0M=some ts) :
  ∃ v G' w',(Instr.buildSlice t len (ps.map fun (i,x)=>(i,a.eval x))).run P w=.ok v w'∧Ext G w G' w'∧Inv tb.fx gl G' w' sg ow∧PRep tb.fx G' w' v (.lit (a0C sz len ts)):=by
 unfold a2W at h
 split at h
 ·rename_i e hu
  split at h
  ·rename_i s z' hs hz
   split at h
   ·rename_i hc
    simp only[g5E] at h
    obtain⟨l',hl',heq⟩:=h
    injection heq with e1 e2 e3 e4
    subst e1 e3
    obtain⟨c1,c2,c3⟩:=hc
    obtain⟨i,zv,hinf,hzz,hzl,hzr⟩:=a7T hz
    obtain⟨q1,q2⟩:=a7X hl'
    have hplace:∀ (i:Nat) (p:Nat×Operand) (q:Nat×Nat×Opd),ps.toList[i]?=some p→l'[i]?=some q→q.1=p.1∧q.2.1=s∧a2D tb nt p.2=some q.2.2:=fun i p q hp hq=>by
     obtain⟨r1,r2⟩:=q2 i p q hp hq
     simp only[g5G,Prod.mk.injEq] at r1
     exact⟨r1.1.symm,r1.2.symm,r2⟩
    have hzero:CRep tb.fx G w ((Array.range (len * s)).map (zv.cells[· % zv.cells.size]!)) ((List.replicate len z').flatten.map .t):=a8C c2 c3 hzl hzr
    obtain⟨c',f1,f2⟩:=a7R (fx:=tb.fx) (G:=G) (w:=w) (place:=fun i=>some (i * s,s)) (ps.toList.map fun p=>(p.1,a.eval p.2)) (l.map fun p=>(p.1 * s,s,p.2.ev fr)) _ _ cs hzero (by rw[←e4];simpa using q1) (fun i p q hp hq=>by
     rw[←e4] at hq
     simp only[g3O,g5E,List.map_map] at hp hq
     obtain⟨p',hp',rfl⟩:=hp
     obtain⟨q',hq',rfl⟩:=hq
     obtain⟨r1,r2,r3⟩:=hplace i p' q' hp' hq'
     simp only[Function.comp]
     exact⟨by rw[r1],a4V r3 hf⟩) hfill
    obtain⟨m1,m2⟩:=a4S _ _ _ hts
    have hno:∀ x∈ts,x.isAgg=false:=fun x hx=>by
     obtain⟨i,hi'⟩:=g3P hx
     have hlt:i < cs.length:=by rw[m1];exact(g3N.1 hi').1
     exact(a8E (m2 i _ x (g3L hlt) hi')).2
    have hts_len:ts.length=len * s:=by
     rw[←m1]
     have hfl:∀ (qs:List (Nat×Nat×PV)) (c0 c1:List PV),fillP c0 qs=some c1→c1.length=c0.length:=by
      intro qs
      induction qs with
      |nil=>intro c0 c1 h;simp [fillP] at h;rw[h]
      |cons q qs ih =>
       intro c0 c1 h
       obtain⟨o,n,x⟩:=q
       simp only[fillP] at h
       split at h
       ·rw[ih _ _ h,a7O]
       ·cases h
     rw[hfl _ _ _ hfill]
     simp [c2]
    obtain⟨hE,hI⟩:=hi.newTree c' e (0,0) (len * s)
    refine⟨.slice (some ⟨w.heap.size,0,none⟩) len len,_,_,?_,hE,hI,?_⟩
    ·have hgt:¬len * s > 2 ^ 24:=by omega
     have hpl:(ps.map fun (p:Nat×Operand)=>(p.1,a.eval p.2)).toList=ps.toList.map fun p=>(p.1,a.eval p.2):=by simp
     have hfin:∀ c0:Array Value,(Array.range (len * s)).map (c0[· % c0.size]!)=(Array.range (len * s)).map (zv.cells[· % zv.cells.size]!) →
       (match Instr.fill (fun i=>some (i * s,s)) ((Array.range (len * s)).map (c0[· % c0.size]!)) (ps.map fun (p:Nat×Operand)=>(p.1,a.eval p.2)).toList with
        |some cells=>(do pure (.slice (some (←newRow e cells)) len len):Sem Value)
        | _ => stuck "buildSlice: a part of the wrong size").run P w = .ok (.slice (some ⟨w.heap.size, 0, none⟩) len len) (w.alloc (.cells c' e (0, 0))) := by
      intro c0 h0
      rw[h0,hpl,f1]
      simp [newRow]
     simp only[Instr.buildSlice,Sem.run_bind,run_underlying hu,Result.andThen_ok,a5I hs]
     rw[if_neg hgt]
     by_cases h0:len * s=0
     ·rw[if_pos h0]
      simp only[Sem.run_bind,Sem.run_pure,Result.andThen_ok]
      exact hfin #[] (by rw[h0];simp)
     ·rw[if_neg h0]
      simp only[Sem.run_bind,Sem.run_pure,Result.andThen_ok,a7U hinf hzz]
      exact hfin zv.cells rfl
    ·have hcl:(a0C s len ts).length=len:=a7F s len ts
     have hlit:TRep (fun b o=>G.st b o∨(b=w.heap.size∧o < len * s)) (w.alloc (.cells c' e (0,0))) (.slice (some ⟨w.heap.size,0,none⟩) (a0C s len ts).length (a0C s len ts).length) (.sl false (a0C s len ts)):=by
      refine TRep.ofRow (sz:=s) (vs:=c'.toList) (a7G s len ts (by omega)) (a7H hno) (g4U _) (a7I (by rw[g2Q,f2.1,m1]) hts_len fun i v y hv hy=>?_) (fun j v hv=>?_) (fun j hj=>.inr ⟨rfl,by rw[hcl] at hj;omega⟩)
      ·have hlt:i < cs.length:=by rw[m1];exact(g3N.1 hy).1
       have hx:=g3L hlt
       exact hE.trep (a8D (f2.2 i v _ (by simpa using hv) hx) (a8E (m2 i _ y hx hy)).1)
      ·rw[cell_of_row _ w.heap.size (0+j) c' e (0,0) (heap_alloc_new w _),g5A]
       simpa using hv
     rw[show Value.slice (some ⟨w.heap.size,0,none⟩) len len=Value.slice (some ⟨w.heap.size,0,none⟩) (a0C s len ts).length (a0C s len ts).length by rw[hcl]]
     refine .lit _ _ hlit ?_ (fun i hi'=>?_) (fun k x hk=>?_) ⟨c',e,(0,0),heap_alloc_new w _⟩
     ·exact hi.bsz
     ·have:=hi.mu_lt hi';omega
     ·have:=hi.tk_lt hk;omega
   ·cases h
  ·cases h
 ·cases h
end Go.Pi

/- PI 13: bytes of a string, make, append. Program independent. -/
namespace Go.Pi
variable {P:Program} {tb:Tb} {fx:List (Nat×Nat)} {gl:Nat→Option (List T)} {G:Gh} {w:World} {sg:Sg} {ow:Ow} {nt:Nat} {a:Act} {fr:List PV}
theorem Ext.drew_l {G':Gh} {w':World} (hi:Inv fx gl G w sg ow) (h:Ext G w.drew G' w'):Ext G w G' w':=hi.drew.1.trans h
theorem a8H (s:List UInt8):(a0I s).length=s.length:=by simp [a0I]
theorem a8I (s:List UInt8):∀ e∈a0I s,e.length=1:=by
 intro e he
 simp only[a0I,List.mem_map] at he
 obtain⟨b,_,rfl⟩:=he
 rfl
theorem a8J (s:List UInt8):∀ e,e∈a0I s→∀ x,x∈e→x.isAgg=false:=by
 intro e he x hx
 simp only[a0I,List.mem_map] at he
 obtain⟨b,_,rfl⟩:=he
 simp only[g4M] at hx
 subst hx
 rfl
theorem a8K (st:Nat→Nat→Prop) (w:World) (s:List UInt8):VRep st w 1 (a0I s) (s.map fun b=>Value.int .u8 b.toNat):=by
 refine⟨by simp [a0I],fun i j e y hi hj=>?_⟩
 simp only[a0I,g3O,g5E] at hi
 obtain⟨b,hb,rfl⟩:=hi
 have hj0:j=0:=by have:=(g3N.1 hj).1;simpa using this
 subst hj0
 simp only[List.getElem?_cons_zero,g5G] at hj
 subst hj
 exact⟨.int .u8 b.toNat,by simp [hb],.int _ _⟩
theorem a8L (hi:Inv fx gl G w sg ow) {src dst e:TypeId} {u:Value} {x:List UInt8} (hs:P.underlying src=some .string) (hd:P.underlying dst=some (.slice e)) (he:P.underlying e=some (.int .u8)) (hu:PRep fx G w u (.t (.str x))) :
  ∃ v w',(convert src dst u).run P w=.ok v w'∧(∃ G',Ext G w G' w'∧Inv fx gl G' w' sg (ow++[x.length])∧PRep fx G' w' v (.own ow.length 1 (a0I x)))∧∃ G',Ext G w G' w'∧Inv fx gl G' w' sg ow∧PRep fx G' w' v (.t (.sl false (a0I x))):=by
 obtain⟨s,rfl,rfl⟩:=hu.str_inv
 have hrun:=run_bytes_of_string (P:=P) w src dst e s hs hd he
 have hge:=grownCap_ge w s.size 0 e
 have hsz:s.size=s.data.toList.length:=Lib.size_eq s
 obtain⟨hE0,hI0⟩:=hi.drew
 have hbl:(bytesRow s (grownCap w s.size 0 e)).size=grownCap w s.size 0 e:=by simp [bytesRow];omega
 have hlen:(a0I s.data.toList).length=s.size:=by rw[a8H,hsz]
 have hrow:∀ (st:Nat→Nat→Prop),(∀ j,j < s.size→st w.heap.size j)→TRep st (w.drew.alloc (.cells (bytesRow s (grownCap w s.size 0 e)) e ((bytesRow s (grownCap w s.size 0 e)).size,(bytesRow s (grownCap w s.size 0 e)).size+1)))
   (.slice (some ⟨w.heap.size,0,none⟩) (a0I s.data.toList).length (grownCap w s.size 0 e)) (.sl false (a0I s.data.toList)):=by
  intro st hst
  refine TRep.ofRow (sz:=1) (vs:=s.data.toList.map fun b=>Value.int .u8 b.toNat) (a8I _) (a8J _) (by omega) (a8K _ _ _) (fun j v hv=>?_) (fun j hj=>by rw[g5A];exact hst j (by omega))
  have hj:j < s.size:=by rw[hsz];simpa using (g3N.1 hv).1
  have hnew:(w.drew.alloc (.cells (bytesRow s (grownCap w s.size 0 e)) e ((bytesRow s (grownCap w s.size 0 e)).size,(bytesRow s (grownCap w s.size 0 e)).size+1))).heap[w.heap.size]?=some _:=heap_alloc_new w.drew _
  rw[cell_of_row _ w.heap.size (0+j) _ _ _ hnew,g5A]
  have hj':j < (s.data.map (fun b=>Value.int .u8 b.toNat)).size:=by simpa using hj
  rw[bytesRow,g2L hj']
  simpa using hv
 refine⟨_,_,hrun,?_,?_⟩
 ·obtain⟨h1,h2⟩:=hI0.newOwn (bytesRow s (grownCap w s.size 0 e)) e ((bytesRow s (grownCap w s.size 0 e)).size,(bytesRow s (grownCap w s.size 0 e)).size+1) 0 1 (grownCap w s.size 0 e) s.data.toList.length (by omega) (by omega) (by omega) (.inl ⟨rfl,fun j hj=>by simp;omega⟩)
  refine⟨_,h1.drew_l hi,h2,?_⟩
  rw[show Value.slice (some ⟨w.heap.size,0,none⟩) s.size (grownCap w s.size 0 e)=Value.slice (some ⟨w.heap.size,0,none⟩) (a0I s.data.toList).length (grownCap w s.size 0 e) by rw[hlen]]
  have htk:G.tk.length=ow.length:=hi.tkl
  have hfr:G.fr.length=ow.length:=by rw[hi.fr]
  refine .own ow.length 1 s.data.toList.length _ _ _ (hrow _ fun j hj=>.inr ⟨rfl,by omega⟩) (by simp only;rw[←hfr];exact a4G _ _) (by omega) (fun _=>⟨w.heap.size,0,?_,rfl,a8I _⟩)
  simp only
  rw[←htk]
  exact a4G _ _
 ·obtain⟨h1,h2⟩:=hI0.newTree (bytesRow s (grownCap w s.size 0 e)) e ((bytesRow s (grownCap w s.size 0 e)).size,(bytesRow s (grownCap w s.size 0 e)).size+1) s.size
  refine⟨_,h1.drew_l hi,h2,?_⟩
  rw[show Value.slice (some ⟨w.heap.size,0,none⟩) s.size (grownCap w s.size 0 e)=Value.slice (some ⟨w.heap.size,0,none⟩) (a0I s.data.toList).length (grownCap w s.size 0 e) by rw[hlen]]
  exact .t (hrow _ fun j hj=>.inr ⟨rfl,hj⟩)
theorem a8M (hi:Inv fx gl G w sg ow) {src e:TypeId} {u:Value} {es:List (List T)} (hs:P.underlying src=some (.slice e)) (he:P.underlying e=some (.int .u8)) (hu:PRep fx G w u (.lit es)) :
  ∃ w',(convert src src u).run P w=.ok u w'∧Ext G w G w'∧Inv fx gl G w' sg ow∧PRep fx G w' u (.cp es):=by
 cases hu with|lit b _ ht hb hmu htk hh =>
 obtain⟨c,t,z,hc⟩:=hh
 have hlt:=a4E hc
 have hshape:w.shape? b=some (t,c.size):=by simp [World.shape?,hc]
 let z':Nat×Nat:=if z.1 == z.2 then (c.size,c.size+1) else (min z.1 c.size,max z.2 (c.size+1))
 have hfz:w.freeze ⟨b,c.size,none⟩ 1=a4L w b (.cells c t z'):=by
  unfold World.freeze
  rw[if_neg (by decide)]
  simp only[a4L,World.mk.injEq,and_true]
  refine g2K fun i=>?_
  rw[Array.getElem?_modify]
  by_cases hbi:b=i
  ·subst hbi
   have hb':w.heap[b]=.cells c t z:=(g2N.1 hc).2
   simp [hlt,hb',z']
  ·rw[if_neg hbi,g2O hbi]
 have hrun:(convert src src (.slice (some ⟨b,0,none⟩) es.length es.length)).run P w=.ok (.slice (some ⟨b,0,none⟩) es.length es.length) (a4L w b (.cells c t z')):=by
  rw[←hfz]
  simp [convert,run_underlying hs,run_underlying he,markStringish,hshape]
 have hcell:∀ a,(a4L w b (.cells c t z')).cell? a=w.cell? a:=by
  intro a
  unfold World.cell?
  by_cases hab:a.block=b
  ·rw[hab,a4M w b _ hlt,hc]
  ·rw[a4N w b _ a.block hab]
 have hE:Ext G w G (a4L w b (.cells c t z')):=⟨⟨[],by simp⟩,fun k n h=>⟨n,h,g4U _,fun _=>rfl⟩,fun k b x h=>.inl ⟨x,h⟩,fun _ _ h=>h,fun _ _ h=>.inl h,fun _ _ _=>hcell _,fun b' hb' _ _=>by
  by_cases hbb:b'=b
  ·subst hbb
   exact .inr ⟨hb,c,t,z,z',hc,a4M w b' _ hlt⟩
  ·exact .inl (a4N w b _ b' hbb),rfl,by simp [a4L],rfl,rfl,rfl,fun b' c1 t1 z1 hb1=>by
   by_cases hbb:b'=b
   ·subst hbb
    rw[hc] at hb1
    injection hb1 with hb1
    injection hb1 with ea eb ec
    subst ea eb ec
    exact⟨c,z',a4M w b' _ hlt,rfl⟩
   ·exact⟨c1,z1,by rw[a4N w b _ b' hbb];exact hb1,rfl⟩⟩
 refine⟨_,hrun,hE,⟨hi.fr,hi.mul,hi.muinj,?_,?_,hi.tkl,?_,hi.tkmu,hi.tkinj,?_,?_,by simpa [a4L] using hi.bsz⟩,.cp _ _ (hE.trep ht)⟩
 ·intro i b' cs hi' hs'
  obtain⟨c1,t1,z1,f1,f2,f3,f4⟩:=hi.blk i b' cs hi' hs'
  have hne:b'≠b:=fun e=>hmu i (e ▸ hi')
  exact⟨c1,t1,z1,by rw[a4N w b _ b' hne];exact f1,f2,fun j v x hv hx=>hE.prep (f3 j v x hv hx),f4⟩
 ·intro i b' cs hi' hs'
  obtain⟨es1,k1,f1,f2,f3⟩:=hi.mps i b' cs hi' hs'
  have hne:b'≠b:=fun e=>hmu i (e ▸ hi')
  exact⟨es1,k1,by rw[a4N w b _ b' hne];exact f1,hE.mrep f2,f3⟩
 ·intro k b' o sz cap n hk hn
  have hne:b'≠b:=fun e=>htk k _ (e ▸ hk)
  rw[a4N w b _ b' hne]
  exact hi.tok k b' o sz cap n hk hn
 ·intro b' o hs'
  have:=hi.stlt b' o hs'
  simpa [a4L] using this
 ·intro g ts j x hg hx
  obtain⟨v,e1,e2,e3⟩:=hi.glob g ts j x hg hx
  exact⟨v,(hcell _).trans e1,hE.trep e2,e3⟩
end Go.Pi
