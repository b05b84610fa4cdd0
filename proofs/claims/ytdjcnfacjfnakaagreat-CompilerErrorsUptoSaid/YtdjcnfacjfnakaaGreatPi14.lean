/- PI 14: make, append. -/
import Derived.Test.YtdjcnfacjfnakaaGreatPi13
set_option linter.unusedSimpArgs false
set_option linter.unusedVariables false
namespace Go.Pi
variable {P:Program} {tb:Tb} {fx:List (Nat×Nat)} {gl:Nat->Option (List T)} {G:Gh} {w:World} {sg:Sg} {ow:Ow} {nt:Nat} {a:Act} {fr:List PV}
theorem a7S {n b:Nat} (h:a0M n b=true):n * b<=140737488355328/\n<=4611686018427387904:=by
 unfold a0M at h
 exact g7P h
theorem a7T {sz:Nat} {es:List (List T)} (h:es.all (λx=>x.length == sz)=true):∀ e∈es,e.length=sz:=by
 intro e he
 have:=g5A.1 h e he
 simpa using this
def a7U (P:Program) (w:World) (sz:Nat) (x:Value) (n:Nat) (vs:List Value):Prop :=
 (Builtin.lenOf x).run P w=.ok n w/\∀ w':World,(∀ ad,w'.cell? ad=w.cell? ad)->(Builtin.firstCells sz n x).run P w'=.ok vs.toArray w'
theorem a7V (hi:Inv fx gl G w sg ow) {u:Value} {x:PV} {sz:Nat} {es:List (List T)} (hu:PRep fx G w u x) (h:a0K sg sz x=some es) (hall:∀ e∈es,e.length=sz) (hsz:0 < sz) :
  ∃ vs,VRep G.st w sz es vs/\(∀ e,e∈es->∀ x,x∈e->x.isAgg=false)/\a7U P w sz u es.length vs:=by
 obtain⟨ad,cap,vs,rfl,hv,ho,hc⟩:=a6U hi hu h hall hsz
 refine⟨vs,hv,ho,rfl,λw' hw=>?_⟩
 by_cases hne:es=[]
 ·subst hne
  have:vs=[]:=g5G (by simpa using hv.1)
  subst this
  cases ad with
  |none=>rfl
  |some q=>simp [Builtin.firstCells,loadCells,loadCellsFrom]
 ·obtain⟨b,o,rfl,hcell⟩:=hc hne
  exact run_firstCells_some w' sz es.length ⟨b,o,none⟩ es.length cap vs hv.1 (λj v hj=>by rw[hw,a4W];exact hcell j v hj)
theorem a7W {s:ByteArray}:a7U P w 1 (.string s) s.size (s.data.toList.map λb=>Value.int .u8 b.toNat):=by
 refine⟨rfl,λw' _=>?_⟩
 simp only[Builtin.firstCells,Sem.run_pure]
 congr 1
 apply Array.ext'
 simp
theorem a7X {st:Nat->Nat->Prop} {v:Value} {y:T} (h:TRep st w v y) (hy:y.isAgg=false):v.oneCell'=true:=by
 cases h <;> first|rfl|cases hy
theorem VRep.one {st:Nat->Nat->Prop} {sz:Nat} {es:List (List T)} {vs:List Value} (h:VRep st w sz es vs) (hall:∀ e∈es,e.length=sz) (hsz:0 < sz) (ho:∀ e,e∈es->∀ x,x∈e->x.isAgg=false):∀ v∈vs,v.oneCell'=true:=by
 intro v hv
 obtain⟨k,hk⟩:=g5Q hv
 have hkl:k < es.length * sz:=by rw[<-h.1];exact(g5O.1 hk).1
 have hi:k / sz < es.length:=Nat.div_lt_of_lt_mul (by rw[Nat.mul_comm];exact hkl)
 have he:=g5M hi
 have hl:=hall _ (g6K he)
 have hj:k % sz < (es[k / sz]).length:=by rw[hl];exact Nat.mod_lt _ hsz
 obtain⟨u,h1,h2⟩:=h.2 (k / sz) (k % sz) _ _ he (g5M hj)
 rw[Nat.mul_comm,Nat.div_add_mod,hk] at h1
 injection h1 with h1
 subst h1
 exact a7X h2 (ho _ (g6K he) _ (List.getElem_mem _))
def a7Y (P:Program) (u:TypeId):Prop:=(∃ e,P.underlying u=some (.slice e))\/P.underlying u=some .string
theorem a7Z {t u ty e:TypeId} {sz n sLen sCap b o:Nat} {x:Value} {vs:List Value} {c:Array Value} {t':TypeId} {z:Nat×Nat} (ht:P.underlying t=some (.slice e)) (hu:a7Y P u) (hs:a2A P e=some sz) (hn:a7U P w sz x n vs)
  (hcap:sLen+n<=sCap) (hb:w.heap[b]?=some (.cells c t' z)) (hbd:o+sLen * sz+vs.length<=c.size) (hz:∀ j,o+sLen * sz<=j->j < c.size->¬(z.1<=j/\j < z.2)) (h1:∀ v∈vs,v.oneCell'=true) :
  (Builtin.append_ #[t,u] ty #[.slice (some ⟨b,o,none⟩) sLen sCap,x]).run P w=.ok (.slice (some ⟨b,o,none⟩) (sLen+n) sCap) (a3X w b (.cells (a3U c (o+sLen * sz) vs) t' z)):=by
 have hst:=a4C (P:=P) vs w b (o+sLen * sz) 0 c t' z hb (by omega) (by simpa using hz) h1
 have hf:=hn.2 w (λ_=>rfl)
 rw[g6R] at hst
 rcases hu with⟨e',hu⟩|hu
 ·simp [Builtin.append_,run_underlying ht,run_underlying hu,a4U hs,hn.1,hcap,hf,a4W,hst]
 ·simp [Builtin.append_,run_underlying ht,run_underlying hu,a4U hs,hn.1,hcap,hf,a4W,hst]
theorem a8A {t u ty e:TypeId} {sz sLen sCap:Nat} {ad:Option Addr} {x:Value} (ht:P.underlying t=some (.slice e)) (hu:a7Y P u) (hs:a2A P e=some sz) (hn:a7U P w sz x 0 []) (hcap:sLen<=sCap) :
  (Builtin.append_ #[t,u] ty #[.slice ad sLen sCap,x]).run P w=.ok (.slice ad sLen sCap) w:=by
 have hf:=hn.2 w (λ_=>rfl)
 rcases hu with⟨e',hu⟩|hu
 ·cases ad <;> simp [Builtin.append_,run_underlying ht,run_underlying hu,a4U hs,hn.1,hcap,hf,storeCells]
 ·cases ad <;> simp [Builtin.append_,run_underlying ht,run_underlying hu,a4U hs,hn.1,hcap,hf,storeCells]
theorem a8B (vo vs:List Value) (Z:Array Value):vo.toArray++(vs.toArray++Z)=(vo++vs).toArray++Z:=by
 rw[<-Array.append_assoc]
 congr 1
 simp
theorem a8C {t u ty e:TypeId} {sz n sLen sCap:Nat} {ad:Option Addr} {x:Value} {vo vs:List Value} {i:TypeInfo} {zv:Value} (ht:P.underlying t=some (.slice e)) (hu:a7Y P u) (hs:a2A P e=some sz) (hi:P.info? e=some i) (hz:i.zero=some zv)
  (hn:a7U P w sz x n vs) (ho:∀ w':World,(∀ ad,w'.cell? ad=w.cell? ad)->(Builtin.firstCells sz sLen (.slice ad sLen sCap)).run P w'=.ok vo.toArray w') (hcap:sCap < sLen+n) (hroom:a0M (sLen+n) i.bytes=true) :
  (Builtin.append_ #[t,u] ty #[.slice ad sLen sCap,x]).run P w =
   .ok (.slice (some ⟨w.heap.size,0,none⟩) (sLen+n) (grownCap w (sLen+n) sCap e)) (w.drew.alloc (.cells ((vo++vs).toArray++Builtin.zeroCells zv.cells (grownCap w (sLen+n) sCap e - (sLen+n))) e)):=by
 have hf:=hn.2 w.drew (λ_=>rfl)
 have hfo:=ho w.drew (λ_=>rfl)
 obtain⟨r1,r2⟩:=a7S hroom
 have h1:¬sLen+n<=sCap:=by omega
 have h2:¬9223372036854775807 < ((sLen:Int)+(n:Int)):=by omega
 have h3:¬281474976710656 < Builtin.nextslicecap (sLen+n) sCap * i.bytes:=by
  have:=nextslicecap_le (need:=sLen+n) (old:=sCap) (by omega)
  have h4:Builtin.nextslicecap (sLen+n) sCap * i.bytes<=2 * (sLen+n) * i.bytes:=g6Y _ this
  have h5:2 * (sLen+n) * i.bytes=2 * ((sLen+n) * i.bytes):=by rw[Nat.mul_assoc]
  omega
 rcases hu with⟨e',hu⟩|hu
 ·simp [Builtin.append_,run_underlying ht,run_underlying hu,a4U hs,hn.1,h1,h2,h3,hf,hfo,a4T hi,a7B hi hz,Question.forced,newRow,grownCap]
  rw[a8B]
 ·simp [Builtin.append_,run_underlying ht,run_underlying hu,a4U hs,hn.1,h1,h2,h3,hf,hfo,a4T hi,a7B hi hz,Question.forced,newRow,grownCap]
  rw[a8B]
theorem a8D {nl:Bool} {ad:Option Addr} {n cap sz:Nat} {es:List (List T)} (h:TRep G.st w (.slice ad n cap) (.sl nl es)) (hall:∀ e∈es,e.length=sz) (hsz:0 < sz) :
  ∃ vo,VRep G.st w sz es vo/\(∀ e,e∈es->∀ x,x∈e->x.isAgg=false)/\∀ w':World,(∀ ad,w'.cell? ad=w.cell? ad)->(Builtin.firstCells sz n (.slice ad n cap)).run P w'=.ok vo.toArray w':=by
 obtain⟨vo,h1,h2,h3⟩:=h.row hall hsz
 obtain⟨rfl,_⟩:=h.sl_inv
 refine⟨vo,h1,h2,λw' hw=>?_⟩
 by_cases hne:es=[]
 ·subst hne
  have:vo=[]:=g5G (by simpa using h1.1)
  subst this
  cases ad with
  |none=>rfl
  |some q=>simp [Builtin.firstCells,loadCells,loadCellsFrom]
 ·obtain⟨b,o,rfl,hcell⟩:=h3 hne
  exact run_firstCells_some w' sz es.length ⟨b,o,none⟩ es.length cap vo h1.1 (λj v hj=>by rw[hw,a4W];exact hcell j v hj)
theorem a8E {st:Nat->Nat->Prop} {w1:World} {sz need cap:Nat} {es:List (List T)} {vs:List Value} {rest:Array Value} {e:TypeId} (hlen:es.length=need) (hcap:need<=cap) (hall:∀ x∈es,x.length=sz) (ho:∀ e,e∈es->∀ x,x∈e->x.isAgg=false)
  (hv:VRep st (w1.alloc (.cells (vs.toArray++rest) e)) sz es vs) (hst:∀ j,j < need * sz->st w1.heap.size j) :
  TRep st (w1.alloc (.cells (vs.toArray++rest) e)) (.slice (some ⟨w1.heap.size,0,none⟩) need cap) (.sl false es):=by
 subst hlen
 refine TRep.ofRow (sz:=sz) (vs:=vs) hall ho hcap hv (λj v hv'=>?_) (λj hj=>by rw[g7A];exact hst j hj)
 rw[cell_of_row _ w1.heap.size (0+j) _ _ _ (heap_alloc_new w1 _),g7A]
 have hj:j < vs.toArray.size:=by simpa using (g5O.1 hv').1
 rw[Array.getElem?_append_left hj]
 simpa using hv'
theorem a8F {v:Value} {k zz:Nat} {es:List (List T)} (h:PRep fx G w v (.own k zz es)):∃ m,G.fr[k]?=some m:=by
 cases h with|own _ _ n _ _ _ _ hk _ _=>exact⟨_,hk⟩
theorem a8G (hi:Inv fx gl G w sg ow) {t u ty e:TypeId} (tg:Nat) (htg:tg=0\/tg=e+1) {sz by_:Nat} {z:List T} {dr:Bool} {va vb:Value} {xa xb r:PV} {ow':Ow} (ht:P.underlying t=some (.slice e)) (hu:a7Y P u) (hs:a2A P e=some sz) (hby:a2B P e=some by_)
  (hz:a2D P e=some z) (hzl:z.length=sz) (hsz:0 < sz) (ha:PRep fx G w va xa) (hb:PRep fx G w vb xb) (h:a0R dr sg ow sz by_ xa xb=some (r,ow')) :
  ∃ v G' w',(Builtin.append_ #[t,u] ty #[va,vb]).run P w=.ok v w'/\Ext G w G' w'/\Inv fx gl G' w' sg ow'/\PRep fx G' w' v r /\
   ∀ k zz es,r=.own k zz es->(∀ k' z' es',xa=.own k' z' es'->∀ b o x,G.tk[k']?=some (b,o,x)->o=tg)->∃ b x,G'.tk[k]?=some (b,tg,x):=by
 obtain⟨inf,zv,hinf,hzz,hzsz,_⟩:=a7A hz
 have hbytes:inf.bytes=by_:=by simp only[a2B,hinf,g7F,g7G] at hby;exact hby
 have hnews:∀ es,(match xb with|.t (.str s)=>some (a0I s)|b=>a0K sg sz b)=some es->(∀ e∈es,e.length=sz)->∃ vs,VRep G.st w sz es vs/\(∀ e,e∈es->∀ x,x∈e->x.isAgg=false)/\a7U P w sz vb es.length vs:=by
  intro es hes hall
  split at hes
  ·rename_i s
   injection hes with hes
   subst hes
   obtain⟨b,rfl,rfl⟩:=hb.str_inv
   have hsize:b.size=(a0I b.data.toList).length:=by rw[a7O,Lib.size_eq]
   by_cases hne:a0I b.data.toList=[]
   ·rw[hne]
    refine⟨[],.nil _ _ _,by simp,?_,λw' _=>?_⟩
    ·show(Builtin.lenOf (.string b)).run P w=_
     simp only[Builtin.lenOf,Sem.run_pure]
     rw[hsize,hne]
    ·simp [Builtin.firstCells]
   ·have hs1:sz=1:=by
     cases hq:a0I b.data.toList with
     |nil=>exact absurd hq hne
     |cons e r=>rw[<-hall e (by rw[hq];simp),a7P b.data.toList e (by rw[hq];simp)]
    subst hs1
    refine⟨_,a7R _ _ _,a7Q _,?_⟩
    rw[<-hsize]
    exact a7W
  ·exact a7V hi hb hes hall hsz
 have hmove:∀ (nl:Bool) (ad:Option Addr) (n cap:Nat) (es news:List (List T)) (vs:List Value),TRep G.st w (.slice ad n cap) (.sl nl es)->(∀ e∈es,e.length=sz)->(∀ e∈news,e.length=sz)->VRep G.st w sz news vs->(∀ e,e∈news->∀ x,x∈e->x.isAgg=false) ->
   a7U P w sz vb news.length vs->cap < es.length+news.length->a0M (es.length+news.length) by_=true ->
   ∃ (vs':List Value) (rest:Array Value) (cap':Nat),(Builtin.append_ #[t,u] ty #[.slice ad n cap,vb]).run P w=.ok (.slice (some ⟨w.heap.size,0,none⟩) (es.length+news.length) cap') (w.drew.alloc (.cells (vs'.toArray++rest) e)) /\
    VRep G.st w sz (es++news) vs'/\(∀ e,e∈es++news->e.length=sz)/\(∀ e,e∈es++news->∀ x,x∈e->x.isAgg=false)/\es.length+news.length<=cap'/\cap' * sz<=(vs'.toArray++rest).size:=by
  intro nl ad n cap es news vs htr hall hall2 hv hno hn hcap hroom
  obtain⟨vo,g1,g2,g3⟩:=a8D (P:=P) htr hall hsz
  obtain⟨rfl,_⟩:=htr.sl_inv
  have hge:=grownCap_ge w (es.length+news.length) cap e
  have hv':=g1.append hv
  refine⟨vo++vs,_,_,a8C ht hu hs hinf hzz hn g3 hcap (by rw[hbytes];exact hroom),hv',?_,?_,hge,?_⟩
  ·intro e' he'
   rcases g6G.1 he' with he'|he'
   ·exact hall e' he'
   ·exact hall2 e' he'
  ·intro e' he'
   rcases g6G.1 he' with he'|he'
   ·exact g2 e' he'
   ·exact hno e' he'
  ·have hvl:(vo++vs).length=(es.length+news.length) * sz:=by rw[hv'.1];simp
   have hzs:zv.cells.size=sz:=by omega
   rw[Array.size_append,size_zeroCells,hzs,g6O,hvl,<-g6Q]
   have:es.length+news.length+(grownCap w (es.length+news.length) cap e - (es.length+news.length))=grownCap w (es.length+news.length) cap e:=by omega
   rw[this]
   exact g6U _
 have hfresh:∀ (nl:Bool) (ad:Option Addr) (n cap:Nat) (es news:List (List T)) (vs:List Value),TRep G.st w (.slice ad n cap) (.sl nl es)->(∀ e∈es,e.length=sz)->(∀ e∈news,e.length=sz)->VRep G.st w sz news vs->(∀ e,e∈news->∀ x,x∈e->x.isAgg=false) ->
   a7U P w sz vb news.length vs->cap < es.length+news.length->a0M (es.length+news.length) by_=true ->
   ∃ v G' w',(Builtin.append_ #[t,u] ty #[.slice ad n cap,vb]).run P w=.ok v w'/\Ext G w G' w'/\Inv fx gl G' w' sg (ow++[es.length+news.length])/\PRep fx G' w' v (.own ow.length sz (es++news))/\∃ b x,G'.tk[ow.length]?=some (b,tg,x):=by
  intro nl ad n cap es news vs htr hall hall2 hv hno hn hcap hroom
  obtain⟨vs',rest,cap',k1,k2,k3,k4,k5,k6⟩:=hmove nl ad n cap es news vs htr hall hall2 hv hno hn hcap hroom
  obtain⟨hE0,hI0⟩:=hi.drew
  obtain⟨hE,hI⟩:=hI0.newOwn (vs'.toArray++rest) e (0,0) tg sz cap' (es.length+news.length) hsz k5 k6 (htg.elim (λh=>.inl ⟨h,λj _=>by simp⟩) (λh=>.inr ⟨h,.inl rfl⟩))
  refine⟨_,_,_,k1,hE.drew_l hi,hI,?_⟩
  have htk:G.tk.length=ow.length:=hi.tkl
  have hfr:G.fr.length=ow.length:=by rw[hi.fr]
  have hlen:(es++news).length=es.length+news.length:=by simp
  have hrep:=a8E (st:=λb o=>G.st b o\/(b=w.drew.heap.size/\o < (es.length+news.length) * sz)) (w1:=w.drew) (e:=e) (rest:=rest) hlen k5 k3 k4 (k2.mono λv y hy=>hE.trep (hE0.trep hy)) (λj hj=>.inr ⟨rfl,hj⟩)
  have hrep':TRep (λb o=>G.st b o\/(b=w.drew.heap.size/\o < (es.length+news.length) * sz)) (w.drew.alloc (.cells (vs'.toArray++rest) e)) (.slice (some ⟨w.heap.size,0,none⟩) (es++news).length cap') (.sl false (es++news)):=by rw[hlen];exact hrep
  rw[show Value.slice (some ⟨w.heap.size,0,none⟩) (es.length+news.length) cap'=Value.slice (some ⟨w.heap.size,0,none⟩) (es++news).length cap' by rw[hlen]]
  have hnew:(G.tk++[(w.drew.heap.size,tg,sz,cap')])[ow.length]?=some (w.drew.heap.size,tg,sz,cap'):=by rw[<-htk];exact a3S _ _
  exact⟨.own ow.length sz (es.length+news.length) _ _ _ hrep' (by simp only;rw[<-hfr];exact a3S _ _) (by omega) (λ_=>⟨w.heap.size,tg,hnew,rfl,k3⟩),_,_,hnew⟩
 have hfr2:∀ {m:Nat} {fes:List (List T)} {vv:Value} ,(∃ v G' w',(Builtin.append_ #[t,u] ty #[vv,vb]).run P w=.ok v w'/\Ext G w G' w'/\Inv fx gl G' w' sg (ow++[m])/\PRep fx G' w' v (.own ow.length sz fes)/\∃ b x,G'.tk[ow.length]?=some (b,tg,x)) ->
   ∃ v G' w',(Builtin.append_ #[t,u] ty #[vv,vb]).run P w=.ok v w'/\Ext G w G' w'/\Inv fx gl G' w' sg (ow++[m])/\PRep fx G' w' v (.own ow.length sz fes) /\
   ∀ k zz es,PV.own ow.length sz fes=.own k zz es->(∀ k' z' es',xa=.own k' z' es'->∀ b o x,G.tk[k']?=some (b,o,x)->o=tg)->∃ b x,G'.tk[k]?=some (b,tg,x):=by
  rintro m fes vv ⟨v,G',w',h1,h2,h3,h4,h5⟩
  refine⟨v,G',w',h1,h2,h3,h4,λk zz es hr _=>?_⟩
  injection hr with hr _ _
  subst hr
  exact h5
 unfold a0R at h
 simp only at h
 split at h
 ·cases h
 ·-- nothing
  rename_i hes
  split at h
  ·rename_i es he
   injection h with h
   injection h with h1 h2
   subst h1 h2
   obtain⟨vs,g1,_,g3⟩:=hnews [] hes (by simp)
   have:vs=[]:=g5G (by simpa using g1.1)
   subst this
   obtain⟨⟨nl,htr⟩,ad,cap,rfl⟩:=a5V ha he
   obtain⟨_,hnl⟩:=htr.sl_inv
   have hcap:es.length<=cap:=by rcases hnl with⟨_,_,rfl,_⟩|⟨_,_,_,hcap⟩ <;> simp [*]
   refine⟨_,G,w,a8A ht hu hs g3 hcap,.refl _ _,hi,ha,λk zz es' hr hold=>?_⟩
   subst hr
   have hkl:k < G.tk.length:=by
    obtain⟨m,hm⟩:=a8F ha
    rw[hi.tkl,<-hi.fr];exact(g5O.1 hm).1
   obtain⟨⟨b,o,x⟩,hg⟩:∃ q,G.tk[k]?=some q:=⟨_,g5M hkl⟩
   have:=hold k zz es' rfl b o x hg
   subst this
   exact⟨b,x,hg⟩
  ·cases h
 ·rename_i e0 r0 hes
  split at h
  ·rename_i hc
   have hall2:=a7T hc.1
   obtain⟨vs,g1,g2,g3⟩:=hnews (e0::r0) hes hall2
   split at h
   ·-- owned
    rename_i k zz es
    split at h
    ·rename_i hc2
     injection h with h
     injection h with h1 h2
     subst h1 h2
     obtain⟨c1,c2,rfl⟩:=hc2
     cases ha with|own _ _ n ad cap _ htr hk hn hlive =>
     have hkn:n=es.length:=by rw[hi.fr,c1] at hk;injection hk with hk;exact hk.symm
     subst hkn
     obtain⟨b,o,q1,q2,hall⟩:=hlive rfl
     subst q2
     obtain⟨p1,p2,c,t',z',e1,e2,e3,e4⟩:=hi.tok k b o zz cap es.length q1 c1
     have hkl:k < G.fr.length:=(g5O.1 hk).1
     have hkt:k < G.tk.length:=(g5O.1 q1).1
     have hlen:(es++e0::r0).length=es.length+(e0::r0).length:=by simp
     by_cases hfit:es.length+(e0::r0).length<=cap
     ·-- in its place
      have hmul:(es.length+(e0::r0).length) * zz<=cap * zz:=g6Y _ hfit
      have hvl:vs.length=(e0::r0).length * zz:=g1.1
      have hbd:0+es.length * zz+vs.length<=c.size:=by rw[hvl];rw[g6Q] at hmul;omega
      have hrun:=a7Z (P:=P) (ty:=ty) ht hu hs g3 hfit e1 hbd (λj hj=>e3.free j (by omega)) (g1.one hall2 hsz g2)
      have hlt:=a3Q e1
      have hget:=a3W c (0+es.length * zz) vs (by omega)
      obtain⟨hE,hI⟩:=hi.growOwn q1 c1 (m:=es.length+(e0::r0).length) (by simp) hfit e1 (a3U c (0+es.length * zz) vs) (a3V _ _ _) (λj hj=>by rw[hget];rw[if_neg (by omega)])
      obtain⟨vo,r1,r2,r3⟩:=htr.row hall hsz
      refine⟨_,_,_,hrun,hE,hI,?_⟩
      have hrep:TRep (λb' j=>G.st b' j\/(b'=b/\j < (es.length+(e0::r0).length) * zz)) (a3X w b (.cells (a3U c (0+es.length * zz) vs) t' z')) (.slice (some ⟨b,0,none⟩) (es++e0::r0).length cap) (.sl false (es++e0::r0)):=by
       refine TRep.ofRow (sz:=zz) (vs:=vo++vs) (λx hx=>?_) (λx hx=>?_) (by rw[hlen];exact hfit) ((r1.append g1).mono λv y hy=>hE.trep hy) (λj v hv=>?_) (λj hj=>.inr ⟨rfl,by rw[hlen] at hj;omega⟩)
       ·rcases g6G.1 hx with hx|hx
        ·exact hall x hx
        ·exact hall2 x hx
       ·rcases g6G.1 hx with hx|hx
        ·exact r2 x hx
        ·exact g2 x hx
       ·rw[cell_of_row _ b (0+j) _ _ _ (a3Y w b _ hlt),hget]
        rcases g6X j vo.length with hj|hj
        ·rw[g5J hj] at hv
         have hvo:vo.length=es.length * zz:=r1.1
         rw[if_neg (by omega)]
         have hne:es≠[]:=λe=>by rw[e] at hvo;simp at hvo;rw[hvo] at hj;cases hj
         obtain⟨b1,o1,hba,hcell⟩:=r3 hne
         injection hba with hba
         injection hba with hb1 ho1
         subst hb1 ho1
         have:=hcell j v hv
         rw[cell_of_row w b (0+j) c t' z' e1] at this
         exact this
        ·rw[g5K hj] at hv
         have hvo:vo.length=es.length * zz:=r1.1
         have hjl:=(g5O.1 hv).1
         rw[if_pos (by omega)]
         have:0+j - (0+es.length * zz)=j - vo.length:=by omega
         rw[this]
         exact hv
      rw[show Value.slice (some ⟨b,0,none⟩) (es.length+(e0::r0).length) cap=Value.slice (some ⟨b,0,none⟩) (es++e0::r0).length cap by rw[hlen]]
      refine⟨.own k zz (es.length+(e0::r0).length) _ _ _ hrep (by simp only;rw[g5T hkl]) (by omega) (λ_=>⟨b,o,q1,rfl,λx hx=>?_⟩),λk0 zz0 es0 hr hold=>?_⟩
      rotate_left
      ·injection hr with hr _ _
       subst hr
       have:=hold k zz es rfl b o _ q1
       subst this
       exact⟨b,_,q1⟩
      rcases g6G.1 hx with hx|hx
      ·exact hall x hx
      ·exact hall2 x hx
     ·-- it moves
      obtain⟨vs',rest,cap',k1,k2,k3,k4,k5,k6⟩:=hmove false _ _ cap es (e0::r0) vs htr hall hall2 g1 g2 g3 (by omega) c2
      obtain⟨hE0,hI0⟩:=hi.drew
      obtain⟨hE,hI⟩:=hI0.moveOwn (n:=es.length) (m:=es.length+(e0::r0).length) c1 (by simp) (vs'.toArray++rest) e tg zz cap' htg hsz k5 k6
      refine⟨_,_,_,k1,hE.drew_l hi,hI,?_⟩
      have hrep:=a8E (st:=λb o=>G.st b o\/(b=w.drew.heap.size/\o < (es.length+(e0::r0).length) * zz)) (w1:=w.drew) (e:=e) (rest:=rest) hlen k5 k3 k4 (k2.mono λv y hy=>hE.trep (hE0.trep hy)) (λj hj=>.inr ⟨rfl,hj⟩)
      have hrep':TRep (λb o=>G.st b o\/(b=w.drew.heap.size/\o < (es.length+(e0::r0).length) * zz)) (w.drew.alloc (.cells (vs'.toArray++rest) e)) (.slice (some ⟨w.heap.size,0,none⟩) (es++e0::r0).length cap') (.sl false (es++e0::r0)):=by rw[hlen];exact hrep
      rw[show Value.slice (some ⟨w.heap.size,0,none⟩) (es.length+(e0::r0).length) cap'=Value.slice (some ⟨w.heap.size,0,none⟩) (es++e0::r0).length cap' by rw[hlen]]
      have hnew:(G.tk.set k (w.drew.heap.size,tg,zz,cap'))[k]?=some (w.drew.heap.size,tg,zz,cap'):=g5T hkt
      refine⟨.own k zz (es.length+(e0::r0).length) _ _ _ hrep' (by simp only;rw[g5T hkl]) (by omega) (λ_=>⟨w.heap.size,tg,hnew,rfl,k3⟩),λk0 zz0 es0 hr _=>?_⟩
      injection hr with hr _ _
      subst hr
      exact⟨_,_,hnew⟩
    ·cases h
   ·rename_i es
    split at h
    ·rename_i hc2
     injection h with h
     injection h with h1 h2
     subst h1 h2
     obtain⟨_,c2,c3⟩:=hc2
     obtain⟨ad,rfl,htr⟩:=ha.cp_inv
     exact hfr2 (hfresh false _ _ _ es (e0::r0) vs htr (a7T c3) hall2 g1 g2 g3 (by simp) c2)
    ·cases h
   ·rename_i es
    split at h
    ·rename_i hc2
     injection h with h
     injection h with h1 h2
     subst h1 h2
     obtain⟨_,c2,c3⟩:=hc2
     cases ha with|lit b _ htr =>
     exact hfr2 (hfresh false _ _ _ es (e0::r0) vs htr (a7T c3) hall2 g1 g2 g3 (by simp) c2)
    ·cases h
   ·split at h
    ·rename_i hc2
     injection h with h
     injection h with h1 h2
     subst h1 h2
     have htr:=ha.t_inv
     cases htr with|nsl =>
     have:=hfresh true none 0 0 [] (e0::r0) vs .nsl (by simp) hall2 g1 g2 g3 (by simp) (by simpa using hc2.2)
     exact hfr2 (by simpa using this)
    ·cases h
   ·cases h
  ·cases h
theorem a8H (hi:Inv fx gl G w sg ow) {t u ty e:TypeId} {sz by_:Nat} {z:List T} {dr:Bool} {va vb:Value} {xa xb r:PV} {ow':Ow} (ht:P.underlying t=some (.slice e)) (hu:a7Y P u) (hs:a2A P e=some sz) (hby:a2B P e=some by_)
  (hz:a2D P e=some z) (hzl:z.length=sz) (hsz:0 < sz) (ha:PRep fx G w va xa) (hb:PRep fx G w vb xb) (h:a0R dr sg ow sz by_ xa xb=some (r,ow')) :
  ∃ v G' w',(Builtin.append_ #[t,u] ty #[va,vb]).run P w=.ok v w'/\Ext G w G' w'/\Inv fx gl G' w' sg ow'/\PRep fx G' w' v r:=by
 obtain⟨v,G',w',h1,h2,h3,h4,_⟩:=a8G hi (ty:=ty) 0 (.inl rfl) ht hu hs hby hz hzl hsz ha hb h
 exact⟨v,G',w',h1,h2,h3,h4⟩
end Go.Pi
