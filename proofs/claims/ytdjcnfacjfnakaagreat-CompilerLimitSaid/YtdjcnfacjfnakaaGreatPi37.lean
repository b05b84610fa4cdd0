/- PI 37: strings.Builder: its own address, its buffer, its string. Program independent. -/
import Derived.Test.YtdjcnfacjfnakaaGreatPi17
set_option linter.unusedSimpArgs false
set_option linter.unusedVariables false
namespace Go.Pi
variable {P:Program} {tb:Tb} {fx:List (Nat×Nat)} {gl:Nat→Option (List T)} {G:Gh} {w:World} {sg:Sg} {ow:Ow}
theorem PRep.owb_own {v:Value} {k ty:Nat} {s:List UInt8} (h:PRep fx G w v (.owb k ty s)):PRep fx G w v (.own k 1 (a0I s))∧(∀ b o x,G.tk[k]?=some (b,o,x)→G.fr[k]?=some s.length→o=ty+1):=by
 cases h with|owb _ _ n ad cap _ ht hk hn hlive =>
 refine⟨?_,fun b o x h1 h2=>?_⟩
 ·rw[show Value.slice (some ad) s.length cap=Value.slice (some ad) (a0I s).length cap by rw[a8H]] at ht ⊢
  refine .own k 1 n ad cap _ ht hk (by rw[a8H];exact hn) fun he=>?_
  rw[a8H] at he
  obtain⟨b,h1,h2⟩:=hlive he
  exact⟨b,_,h1,h2,a8I _⟩
 ·rw[hk] at h2
  injection h2 with h2
  obtain⟨b',h3,_⟩:=hlive h2
  rw[h1] at h3
  injection h3 with h3
  injection h3 with _ h3
  injection h3
theorem b0P {v:Value} {k ty:Nat} {s:List UInt8} (h:PRep fx G w v (.own k 1 (a0I s))) (ht:∃ b x,G.tk[k]?=some (b,ty+1,x)):PRep fx G w v (.owb k ty s):=by
 obtain⟨b0,x0,ht⟩:=ht
 cases h with|own _ _ n ad cap _ hr hk hn hlive =>
 rw[show Value.slice (some ad) (a0I s).length cap=Value.slice (some ad) s.length cap by rw[a8H]] at hr ⊢
 refine .owb k ty n ad cap s hr hk (by rw[a8H] at hn;exact hn) fun he=>?_
 obtain⟨b,o,h1,h2,_⟩:=hlive (by rw[a8H];exact he)
 rw[ht] at h1
 injection h1 with h1
 injection h1 with e1 e2
 injection e2 with e2 e3
 subst e1 e2 e3
 exact⟨_,ht,h2⟩
theorem b0Q (a b:List UInt8):a0I (a++b)=a0I a++a0I b:=by simp [a0I]
theorem b0R {x:List UInt8} (h:x≠[]):∃ e r,a0I x=e::r:=by
 cases x with
 |nil=>exact absurd rfl h
 |cons b r=>exact⟨_,_,rfl⟩
theorem b0S (hi:Inv fx gl G w sg ow) {t u ty e:TypeId} {z:List T} {va vb:Value} {xa xb r:PV} {ow':Ow} (ht:P.underlying t=some (.slice e)) (hu:P.underlying u=some .string) (hs:a2H P e=some 1) (hby:a2I P e=some 1)
  (hz:a2K P e=some z) (hzl:z.length=1) (ha:PRep fx G w va xa) (hb:PRep fx G w vb xb) (h:a0X ow e xa xb=some (r,ow')) :
  ∃ v G' w',(Builtin.append_ #[t,u] ty #[va,vb]).run P w=.ok v w'∧Ext G w G' w'∧Inv fx gl G' w' sg ow'∧PRep fx G' w' v r:=by
 unfold a0X at h
 split at h
 ·rename_i x
  split at h
  ·rename_i hx
   subst hx
   injection h with h
   injection h with h1 h2
   subst h1 h2
   exact a9C hi (dr:=false) ht (.inr hu) hs hby hz hzl (by omega) ha hb (by simp [a0U,a0I,elems])
  ·rename_i hx
   split at h
   ·rename_i hr
    injection h with h
    injection h with h1 h2
    subst h1 h2
    obtain⟨e0,r0,hbt⟩:=b0R hx
    have hl:(e0::r0).length=x.length:=by rw[←hbt,a8H]
    have hall:(e0::r0).all (fun y=>y.length == 1)=true:=by
     rw[←hbt]
     exact g2Y.2 fun y hy=>by simpa using a8I _ y hy
    obtain⟨v,G',w',h1,h2,h3,h4,h5⟩:=a9B hi (ty:=ty) (e+1) (.inr rfl) ht (.inr hu) hs hby hz hzl (by omega) ha hb (dr:=false) (r:=.own ow.length 1 (a0I x)) (ow':=ow++[x.length]) (by
     simp only[a0U,hbt,hall,hl,hr,Nat.zero_lt_one,g5H,if_true])
    exact⟨v,G',w',h1,h2,h3,b0P h4 (h5 _ _ _ rfl (fun _ _ _ hq=>by cases hq))⟩
   ·cases h
 ·rename_i k ty' s x
  obtain⟨hown,htag⟩:=ha.owb_own
  split at h
  ·rename_i hx
   subst hx
   injection h with h
   injection h with h1 h2
   subst h1 h2
   obtain⟨v,G',w',h1,h2,h3,h4⟩:=a9C hi (ty:=ty) (dr:=false) (r:=.own k 1 (a0I s)) (ow':=ow) ht (.inr hu) hs hby hz hzl (by omega) hown hb (by simp [a0U,a0I,elems])
   obtain⟨ad,cap,rfl,hcap⟩:∃ ad cap,va=.slice (some ad) s.length cap∧s.length≤cap:=by
    cases ha with|owb _ _ n ad cap _ ht _ _ _ =>
    obtain⟨_,hnl⟩:=ht.sl_inv
    refine⟨_,_,rfl,?_⟩
    rcases hnl with⟨q,_⟩|⟨_,_,_,hcap⟩
    ·cases q
    ·rw[a8H] at hcap;exact hcap
   have hb':vb=.string ⟨#[]⟩:=by
    obtain⟨q,rfl,hq⟩:=hb.str_inv
    cases q with|mk q=>simp at hq;subst hq;rfl
   subst hb'
   have hn0:a8P P w 1 (.string ⟨#[]⟩) 0 []:=⟨rfl,fun w' _=>by simp [Builtin.firstCells]⟩
   exact⟨_,G,w,a8V ht (.inr hu) hs hn0 hcap,.refl _ _,hi,ha⟩
  ·rename_i hx
   split at h
   ·rename_i hc
    injection h with h
    injection h with h1 h2
    subst h1 h2
    obtain⟨c1,c2,rfl⟩:=hc
    obtain⟨e0,r0,hbt⟩:=b0R hx
    have hl:(e0::r0).length=x.length:=by rw[←hbt,a8H]
    have hall:(e0::r0).all (fun y=>y.length == 1)=true:=by
     rw[←hbt]
     exact g2Y.2 fun y hy=>by simpa using a8I _ y hy
    obtain⟨v,G',w',h1,h2,h3,h4,h5⟩:=a9B hi (ty:=ty) (ty'+1) (.inr rfl) ht (.inr hu) hs hby hz hzl (by omega) hown hb (dr:=false) (r:=.own k 1 (a0I (s++x))) (ow':=ow.set k (s.length+x.length)) (by
     simp only[a0U,hbt,hall,hl,c1,c2,b0Q,a8H,Nat.zero_lt_one,g5H,if_true])
    refine⟨v,G',w',h1,h2,h3,b0P h4 (h5 _ _ _ rfl (fun k' z' es' hq b o y hy=>?_))⟩
    injection hq with q1 _ _
    subst q1
    exact htag b o y hy (by rw[hi.fr];exact c1)
   ·cases h
 ·cases h
theorem Inv.freezeTok (h:Inv fx gl G w sg ow) {k g o sz cap n:Nat} (hk:G.tk[k]?=some (g,o,sz,cap)) (hn:ow[k]?=some n) {c:Array Value} {t:TypeId} {z:Nat×Nat} (hb:w.heap[g]?=some (.cells c t z)) (z':Nat×Nat) (hz:Tz o t n sz c.size z') :
  Ext G w G (a4L w g (.cells c t z'))∧Inv fx gl G (a4L w g (.cells c t z')) sg ow:=by
 have hlt:=a4E hb
 have hcell:∀ b j,(a4L w g (.cells c t z')).cell? ⟨b,j,none⟩=w.cell? ⟨b,j,none⟩:=by
  intro b j
  by_cases hne:b=g
  ·subst hne
   rw[cell_of_row _ b j c t z' (a4M w b _ hlt),cell_of_row _ b j c t z hb]
  ·unfold World.cell?
   rw[a4N w g _ b hne]
 have he:Ext G w G (a4L w g (.cells c t z')):=by
  refine⟨⟨[],by simp⟩,fun k n h=>⟨n,h,g4U _,fun _=>rfl⟩,fun k b x h=>.inl ⟨x,h⟩,fun _ _ h=>h,fun _ _ h=>.inl h,fun b j _=>hcell b j,fun b _ _ htk=>.inl (a4N w g _ b (fun e=>htk k _ (e ▸ hk))),rfl,by simp [a4L],rfl,rfl,rfl,fun b c1 t1 z1 hb1=>?_⟩
  by_cases hbb:b=g
  ·subst hbb
   rw[hb] at hb1
   injection hb1 with hb1
   injection hb1 with ea eb ec
   subst ea eb ec
   exact⟨c,z',a4M w b _ hlt,rfl⟩
  ·exact⟨c1,z1,by rw[a4N w g _ b hbb];exact hb1,rfl⟩
 refine⟨he,⟨h.fr,h.mul,h.muinj,?_,?_,h.tkl,?_,h.tkmu,h.tkinj,?_,?_,by simpa [a4L] using h.bsz⟩⟩
 ·intro i b cs hi hs
  obtain⟨c1,t1,z1,f1,f2,f3,f4⟩:=h.blk i b cs hi hs
  have hne:b≠g:=fun e=>h.tkmu k g _ i hk (e ▸ hi)
  exact⟨c1,t1,z1,by rw[a4N w g _ b hne];exact f1,f2,fun j v x hv hx=>he.prep (f3 j v x hv hx),f4⟩
 ·intro i b cs hi hs
  obtain⟨es,kk,f1,f2,f3⟩:=h.mps i b cs hi hs
  have hne:b≠g:=fun e=>h.tkmu k g _ i hk (e ▸ hi)
  exact⟨es,kk,by rw[a4N w g _ b hne];exact f1,he.mrep f2,f3⟩
 ·intro k' b o' sz' cap' n' hk' hn'
  obtain⟨p1,p2,c1,t1,z1,f1,f2,f3,f4⟩:=h.tok k' b o' sz' cap' n' hk' hn'
  by_cases hkk:k'=k
  ·subst hkk
   rw[hk] at hk'
   injection hk' with hk'
   injection hk' with q1 q2
   injection q2 with q2 q3
   injection q3 with q3 q4
   subst q1 q2 q3 q4
   rw[hn] at hn'
   injection hn' with hn'
   subst hn'
   rw[hb] at f1
   injection f1 with f1
   injection f1 with ea eb ec
   subst ea eb ec
   exact⟨p1,p2,c,t,z',a4M w g _ hlt,f2,hz,f4⟩
  ·have hne:b≠g:=fun e=>hkk (h.tkinj k' k b _ _ hk' (e ▸ hk))
   exact⟨p1,p2,c1,t1,z1,by rw[a4N w g _ b hne];exact f1,f2,f3,f4⟩
 ·intro b j hs
  have:=h.stlt b j hs
  simpa [a4L] using this
 ·intro g' ts j x hg hx
  obtain⟨v,e1,e2,e3⟩:=h.glob g' ts j x hg hx
  exact⟨v,(hcell _ _).trans e1,he.trep e2,e3⟩
theorem b0T (w:World) (g n:Nat) (c:Array Value) (t:TypeId) (z:Nat×Nat) (h:w.heap[g]?=some (.cells c t z)) (hn:n≠0) :
  (w.freeze ⟨g,0,none⟩ n).heap=(a4L w g (.cells c t (if z.1 == z.2 then (0,0+n) else (min z.1 0,max z.2 (0+n))))).heap:=by
 have hlt:=a4E h
 simp only[World.freeze,a4L,if_neg hn]
 refine g2K fun i=>?_
 rw[Array.getElem?_modify]
 by_cases hi:g=i
 ·subst hi
  have hb:w.heap[g]=.cells c t z:=(g2N.1 h).2
  obtain⟨lo,hi⟩:=z
  simp [hlt,hb]
 ·rw[if_neg hi,g2O hi]
theorem Inv.cellOf (h:Inv fx gl G w sg ow) {id b j:Nat} {cs:List PV} {x:PV} (hmu:G.mu[id]?=some b) (hsg:sg[id]?=some (false,cs)) (hx:cs[j]?=some x) :
  ∃ c t z v,w.heap[b]?=some (.cells c t z)∧c[j]?=some v∧PRep fx G w v x:=by
 obtain⟨c,t,z,e1,e2,e3,_⟩:=h.blk id b cs hmu hsg
 have hlt:j < c.size:=g4W (g3N.1 hx).1 e2
 exact⟨c,t,z,c[j],e1,g2M hlt,e3 j _ x (g2M hlt) hx⟩
theorem b0U {v:Value} {id ty b:Nat} (h:PRep fx G w v (.bp id ty)) (hb:G.mu[id]?=some b):(v=.pointer none∨v=.pointer (some ⟨b,0,none⟩))∧∃ c z,w.heap[b]?=some (.cells c ty z)∧c.size=2:=by
 cases h with
 |bpn _ _ b' h hc=>rw[h] at hb;injection hb with hb;subst hb;exact⟨.inl rfl,hc⟩
 |bpa _ _ b' h hc=>rw[h] at hb;injection hb with hb;subst hb;exact⟨.inr rfl,hc⟩
theorem b0V {u:Bu} (hB:BuOk P u) (hi:Inv fx gl G w sg ow) {va:Value} {xa r:PV} (ha:PRep fx G w va xa) (h:a0W sg u.b xa=some r) :
  Calls P u.c #[va] w fun e w'=>∃ v,e=.returned v∧Ext G w G w'∧Inv fx gl G w' sg ow∧PRep fx G w' v r:=by
 unfold a0W at h
 split at h
 ·rename_i id
  split at h
  ·rename_i id' ty' r0 hsg
   split at h
   ·rename_i hc
    obtain⟨rfl,rfl⟩:=hc
    injection h with h
    subst h
    cases ha with|lp _ _ b hmu =>
    obtain⟨c,t,z,v0,e1,e2,e3⟩:=hi.cellOf (j:=0) hmu hsg rfl
    obtain⟨hv,c',z',f1,f2⟩:=b0U e3 hmu
    obtain⟨c1,t1,z1,g1,g2,g3,g4,_⟩:=hi.blk _ b _ hmu hsg
    rw[e1] at f1 g1
    injection f1 with f1
    injection f1 with ea eb ec
    subst ea eb ec
    injection g1 with g1
    injection g1 with ea eb ec
    subst ea eb ec
    refine(hB.cck b w c z e1 f2 (g4 0 (by omega)) (by rcases hv with rfl|rfl <;> simp [e2])).mono ?_
    rintro e w' ⟨rfl,rfl|rfl⟩
    ·exact⟨_,rfl,.refl _ _,hi,.tup #[] [] rfl (by simp)⟩
    ·rw[a4O w b 0 _ c _ z e1]
     obtain⟨hE,hI⟩:=hi.storeLocal hmu hsg (by simp) e1 (c.setIfInBounds 0 (.pointer (some ⟨b,0,none⟩))) (.bp id' u.b::r0) (by simp) (by simpa using g2) (fun j v x hv' hx=>by
      by_cases hj:j=0
      ·subst hj
       rw[g2P (by omega)] at hv'
       injection hv' with hv'
       subst hv'
       simp only[List.getElem?_cons_zero,g5G] at hx
       subst hx
       exact .bpa _ _ b hmu ⟨c,z,e1,f2⟩
      ·rw[g2O (fun e=>hj e.symm)] at hv'
       exact g3 j v x hv' hx)
     have hset:sg.set id' (false,.bp id' u.b::r0)=sg:=by
      refine List.ext_getElem? fun i=>?_
      by_cases hii:i=id'
      ·subst hii
       rw[g3S (g3N.1 hsg).1,hsg]
      ·rw[g3R (fun e=>hii e.symm)]
     rw[hset] at hI
     exact⟨_,rfl,hE,hI,.tup #[] [] rfl (by simp)⟩
   ·cases h
  ·cases h
 ·cases h
theorem b0W {u:Bu} (hB:BuOk P u) (hi:Inv fx gl G w sg ow) {va:Value} {xa r:PV} (ha:PRep fx G w va xa) (h:a0Y sg ow u.e xa=some r) :
  Calls P u.f #[va] w fun e w'=>∃ v,e=.returned v∧Ext G w G w'∧Inv fx gl G w' sg ow∧PRep fx G w' v r:=by
 unfold a0Y at h
 split at h
 ·rename_i id
  split at h
  ·rename_i x0 hsg
   injection h with h
   subst h
   cases ha with|lp _ _ b hmu =>
   obtain⟨c,t,z,v1,e1,e2,e3⟩:=hi.cellOf (j:=1) hmu hsg rfl
   have hv:v1=.slice none 0 0:=by
    cases e3 with|t h=>cases h;rfl
   subst hv
   refine(hB.nil b w c t z e1 e2).mono ?_
   rintro e w' ⟨rfl,h1,h2,h3,h4⟩
   obtain⟨hE,hI⟩:=hi.same h1 h2 h3 h4
   exact⟨_,rfl,hE,hI,.t (.str ⟨#[]⟩)⟩
  ·rename_i x0 k ty' s hsg
   split at h
   ·rename_i hc
    obtain⟨c1,rfl,c3,c4⟩:=hc
    injection h with h
    subst h
    cases ha with|lp _ _ b hmu =>
    obtain⟨c,t,z,v1,e1,e2,e3⟩:=hi.cellOf (j:=1) hmu hsg rfl
    cases e3 with|owb _ _ n ad cap _ ht hk hn hlive =>
    have hkn:n=s.length:=by rw[hi.fr,c1] at hk;injection hk with hk;exact hk.symm
    obtain⟨g,q1,rfl⟩:=hlive hkn
    obtain⟨p1,p2,cur,ty,y,f1,f2,f3,f4⟩:=hi.tok k g _ 1 cap s.length q1 c1
    have hty:ty=u.e∧(y.1=y.2∨y.2≤s.length * 1):=by
     rcases f3 with⟨q,_⟩|⟨q,q'⟩
     ·cases q
     ·exact⟨(Nat.add_right_cancel (show u.e+1=ty+1 from q)).symm,q'⟩
    obtain⟨rfl,hy⟩:=hty
    have hcells:∀ (j:Nat) (x:UInt8),s[j]?=some x→w.cell? ⟨g,j,none⟩=some (.int .u8 x.toNat):=by
     intro j x hx
     obtain⟨vo,r1,r2,r3⟩:=ht.row (a8I s) (by omega)
     have hne:a0I s≠[]:=by
      obtain⟨_,_,hq⟩:=b0R c3
      rw[hq];simp
     obtain⟨b1,o1,hba,hcell⟩:=r3 hne
     injection hba with hba
     injection hba with hb1 ho1
     subst hb1 ho1
     have hj:(a0I s)[j]?=some [.int .u8 x.toNat]:=by simp [a0I,hx]
     obtain⟨v,hv1,hv2⟩:=r1.2 j 0 [.int .u8 x.toNat] (.int .u8 x.toNat) hj rfl
     have:=hcell (j * 1+0) v hv1
     cases hv2
     simpa using this
    refine(hB.str b g cap w c cur t z y s e1 e2 f1 c3 p2 (by omega) c4 hcells).mono ?_
    rintro e w' ⟨rfl,h1,h2,h3,h4⟩
    rw[b0T w g s.length cur u.e y f1 (by cases s with|nil=>exact absurd rfl c3|cons _ _=>simp)] at h1
    obtain⟨hE,hI⟩:=hi.freezeTok q1 c1 f1 (if y.1 == y.2 then (0,0+s.length) else (min y.1 0,max y.2 (0+s.length))) (by
     refine .inr ⟨rfl,.inr ?_⟩
     split
     ·simp
     ·rename_i hne
      have:¬y.1=y.2:=by simpa using hne
      simp only[g5A]
      omega)
    obtain⟨hE2,hI2⟩:=hI.same h1 h2 h3 h4
    exact⟨_,rfl,hE.trans hE2,hI2,.tstr (by simp)⟩
   ·cases h
  ·cases h
 ·cases h
theorem b0X (w:World) (b:Nat) (o:Obj) (h:w.heap[b]?=some o):a4L w b o=w:=by
 have hlt:=a4E h
 have:w.heap.setIfInBounds b o=w.heap:=by
  refine g2K fun j=>?_
  by_cases hj:b=j
  ·subst hj;rw[h,g2P hlt]
  ·rw[g2O hj]
 simp only[a4L,this]
theorem Inv.newBuilder (hi:Inv fx gl G w sg ow) (c:Array Value) (ty:TypeId) (hsz:c.size=2) (h0:c[0]?=some (.pointer none)) (h1:c[1]?=some (.slice none 0 0)) :
  Ext G w { G with mu:=G.mu++[w.heap.size] } (w.alloc (.cells c ty))∧Inv fx gl { G with mu:=G.mu++[w.heap.size] } (w.alloc (.cells c ty)) (sg++[(false,[.bp sg.length ty,.t (.sl true [])])]) ow:=by
 obtain⟨hE,hI⟩:=hi.newLocal c ty [.t .nptr,.t (.sl true [])] (by simp [hsz]) (fun j v x hv hx=>by
  match j with
  |0 =>
   rw[h0] at hv
   injection hv with hv
   subst hv
   injection hx with hx
   subst hx
   exact .t .nptr
  |1 =>
   rw[h1] at hv
   injection hv with hv
   subst hv
   injection hx with hx
   subst hx
   exact .t .nsl
  |j+2=>simp at hx)
 have hmu:(G.mu++[w.heap.size])[sg.length]?=some w.heap.size:=by rw[←hi.mul];exact a4G _ _
 have hb:(w.alloc (.cells c ty)).heap[w.heap.size]?=some (.cells c ty):=heap_alloc_new w _
 obtain⟨hE2,hI2⟩:=hI.storeLocal (i:=sg.length) (b:=w.heap.size) hmu (a4G _ _) (by simp) hb c [.bp sg.length ty,.t (.sl true [])] rfl (by simp [hsz]) (fun j v x hv hx=>by
  match j with
  |0 =>
   rw[h0] at hv
   injection hv with hv
   subst hv
   injection hx with hx
   subst hx
   exact .bpn _ _ _ hmu ⟨c,_,hb,hsz⟩
  |1 =>
   rw[h1] at hv
   injection hv with hv
   subst hv
   injection hx with hx
   subst hx
   exact .t .nsl
  |j+2=>simp at hx)
 rw[b0X _ _ _ hb] at hI2
 refine⟨hE,?_⟩
 have:(sg++[(false,[PV.t .nptr,.t (.sl true [])])]).set sg.length (false,[.bp sg.length ty,.t (.sl true [])])=sg++[(false,[.bp sg.length ty,.t (.sl true [])])]:=by simp
 rwa [this] at hI2
end Go.Pi
