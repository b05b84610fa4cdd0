/- PI 9: slices of slices, strings and arrays; conversions. -/
import Derived.Test.YtdjcnfacjfnakaaGreatPi8
import Derived.Laws.BytesString
set_option linter.unusedSimpArgs false
set_option linter.unusedVariables false
namespace Go.Pi
variable {P:Program} {tb:Tb} {fx:List (Nat×Nat)} {gl:Nat->Option (List T)} {G:Gh} {w:World} {sg:Sg} {ow:Ow} {nt:Nat} {a:Act} {fr:List PV}
def a6H (fx:List (Nat×Nat)) (G:Gh) (w:World):Option Value->Option PV->Prop
 |none,none=>True
 |some v,some x=>PRep fx G w v x
 |_,_=>False
theorem a6I {k:IntKind} {i:Int} {y:Nat} {c:BoundsCode} (h0:0<=i) (h1:i.toNat<=y) (w:World):(Instr.sliceBound (.int k i) y c).run P w=.ok i.toNat w:=by
 have:i<=(y:Int):=by omega
 simp [Instr.sliceBound,asIntOf,h0,this]
theorem a6J {v:Option Value} {x:Option PV} {d n:Nat} (hr:a6H fx G w v x) (h:bound x d=some n):(v=none/\x=none/\n=d)\/∃ k i,v=some (.int k i)/\0<=i/\n=i.toNat/\x.isSome=true:=by
 unfold bound at h
 split at h
 ·cases v with
  |none=>injection h with h;exact .inl ⟨rfl,rfl,h.symm⟩
  |some v=>cases hr
 ·cases v with
  |none=>cases hr
  |some v =>
   rename_i k i
   have:=PRep.int_inv hr
   subst v
   split at h
   ·rename_i h0
    injection h with h
    exact .inr ⟨k,i,rfl,h0,h.symm,rfl⟩
   ·cases h
 ·cases h
theorem a6K {isS:Bool} {len cap l h m:Nat} {lo hi mx:Option Value} {xl xh xm:Option PV} (rl:a6H fx G w lo xl) (rh:a6H fx G w hi xh) (rm:a6H fx G w mx xm) (hl:bound xl 0=some l) (hh:bound xh len=some h)
  (hm:bound xm cap=some m) (h1:l<=h) (h2:h<=m) (h3:m<=cap) (hmx:xm.isSome=true->xh.isSome=true):(Instr.sliceBounds isS len cap lo hi mx).run P w=.ok (l,h,m) w:=by
 unfold Instr.sliceBounds
 rcases a6J rm hm with⟨rfl,rfl,rfl⟩|⟨km,im,rfl,m0,rfl,hxm⟩
 ·rcases a6J rh hh with⟨rfl,rfl,rfl⟩|⟨kh,ih,rfl,p0,rfl,_⟩
  ·rcases a6J rl hl with⟨rfl,rfl,rfl⟩|⟨kl,il,rfl,l0,rfl,_⟩
   ·simp
   ·simp only[Sem.run_bind,Sem.run_pure,Result.andThen_ok,a6I (P:=P) l0 h1]
  ·rcases a6J rl hl with⟨rfl,rfl,rfl⟩|⟨kl,il,rfl,l0,rfl,_⟩
   ·simp only[Sem.run_bind,Sem.run_pure,Result.andThen_ok,a6I (P:=P) p0 h2]
   ·simp only[Sem.run_bind,Sem.run_pure,Result.andThen_ok,a6I (P:=P) p0 h2,a6I (P:=P) l0 h1]
 ·rcases a6J rh hh with⟨rfl,rfl,rfl⟩|⟨kh,ih,rfl,p0,rfl,_⟩
  ·exact absurd (hmx hxm) (by simp)
  ·rcases a6J rl hl with⟨rfl,rfl,rfl⟩|⟨kl,il,rfl,l0,rfl,_⟩
   ·simp only[Sem.run_bind,Sem.run_pure,Result.andThen_ok,a6I (P:=P) m0 h3,a6I (P:=P) p0 h2]
   ·simp only[Sem.run_bind,Sem.run_pure,Result.andThen_ok,a6I (P:=P) m0 h3,a6I (P:=P) p0 h2,a6I (P:=P) l0 h1]
theorem a6L {α:Type} (l:List α) (h k i:Nat) (x:α) (hx:((l.take h).drop k)[i]?=some x):l[k+i]?=some x/\k+i < h:=by
 rw[g5L,g5U] at hx
 split at hx
 ·exact⟨hx,by assumption⟩
 ·cases hx
theorem TRep.sl_inv {st:Nat->Nat->Prop} {ad:Option Addr} {n cap:Nat} {nl:Bool} {es:List (List T)} (h:TRep st w (.slice ad n cap) (.sl nl es)) :
  n=es.length/\((nl=true/\ad=none/\es=[]/\cap=0)\/(nl=false/\∃ q,ad=some q/\es.length<=cap)):=by
 generalize hv:Value.slice ad n cap=v at h
 generalize hx:T.sl nl es=x at h
 cases h <;> simp only[reduceCtorEq,Value.slice.injEq,T.sl.injEq] at hv hx
 ·obtain⟨rfl,rfl,rfl⟩:=hv
  obtain⟨rfl,rfl⟩:=hx
  exact⟨rfl,.inl ⟨rfl,rfl,rfl,rfl⟩⟩
 ·obtain⟨rfl,rfl,rfl⟩:=hv
  obtain⟨rfl,rfl⟩:=hx
  exact⟨rfl,.inr ⟨rfl,_,rfl,by assumption⟩⟩
theorem PRep.t_inv {v:Value} {x:T} (h:PRep fx G w v (.t x)):TRep G.st w v x:=by
 cases h with|t h=>exact h
theorem PRep.cp_inv {v:Value} {es:List (List T)} (h:PRep fx G w v (.cp es)):∃ ad,v=.slice (some ad) es.length es.length/\TRep G.st w v (.sl false es):=by
 cases h with|cp ad _ h=>exact⟨ad,rfl,h⟩
theorem TRep.sub {st:Nat->Nat->Prop} {ad:Addr} {len cap l h m sz:Nat} {es:List (List T)} (ht:TRep st w (.slice (some ad) len cap) (.sl false es)) (h1:l<=h) (h2:h<=es.length) (hm:h<=m) (hs:a0P sz ((es.take h).drop l)=true) :
  TRep st w (.slice (some (if m=l then ad else ad.add (l * sz))) (h - l) (m - l)) (.sl false ((es.take h).drop l)):=by
 cases ht with|sl _ _ sz0 _ vs hcap hsp hsz ho hc hr =>
 have hlen:((es.take h).drop l).length=h - l:=by simp;omega
 rw[<-hlen]
 by_cases hne:(es.take h).drop l=[]
 ·refine .sl _ _ sz _ (λ_ _=>undef) (by rw[hlen];omega) (λh=>absurd hne h) (λe he=>by rw[hne] at he;cases he) (λe he=>by rw[hne] at he;cases he) ?_ ?_
  ·intro i j e x hi;rw[hne] at hi;simp at hi
  ·intro i j e x hi;rw[hne] at hi;simp at hi
 ·have hlt:l < h:=by
   rcases g6X l h with h|h
   ·exact h
   ·exact absurd (g5G (by rw[hlen];omega)) hne
  have hne':es≠[]:=λe=>by rw[e] at h2;simp at h2;omega
  have hspot:=hsp hne'
  obtain⟨bb,oo,ss⟩:=ad
  simp only at hspot
  subst hspot
  have hsz0:sz0=sz:=by
   cases hcs:(es.take h).drop l with
   |nil=>exact absurd hcs hne
   |cons e r =>
    rw[hcs] at hs
    simp only[a0P,beq_iff_eq] at hs
    rw[<-hs]
    exact(hsz e (List.mem_of_mem_take (List.mem_of_mem_drop (by rw[hcs];simp)))).symm
  subst hsz0
  rw[if_neg (by omega),a4W]
  refine .sl _ _ sz0 _ (λi j=>vs (l+i) j) (by rw[hlen];omega) (λ_=>rfl) (λe he=>hsz e (List.mem_of_mem_take (List.mem_of_mem_drop he))) (λe he=>ho e (List.mem_of_mem_take (List.mem_of_mem_drop he))) ?_ ?_
  ·intro i j e x hi hj
   obtain⟨q1,_⟩:=a6L _ _ _ _ _ hi
   have:=hc (l+i) j e x q1 hj
   have he:oo+((l+i) * sz0+j)=oo+l * sz0+(i * sz0+j):=by rw[g6Q];omega
   rw[he] at this
   exact this
  ·intro i j e x hi hj
   obtain⟨q1,_⟩:=a6L _ _ _ _ _ hi
   exact hr (l+i) j e x q1 hj
theorem a6M {t e:TypeId} {sz:Nat} {u:Value} {x r:PV} {lo hi mx:Option Value} {xl xh xm:Option PV} (ht:P.underlying t=some (.slice e)) (hs:a2A P e=some sz) (hu:PRep fx G w u x) (rl:a6H fx G w lo xl) (rh:a6H fx G w hi xh) (rm:a6H fx G w mx xm)
  (hmx:xm.isSome=true->xh.isSome=true) (h:a0Q sz x xl xh xm=some r):∃ v,(Instr.slice t u lo hi mx).run P w=.ok v w/\PRep fx G w v r:=by
 have run:∀ (ad:Option Addr) (len cap l h m:Nat),(Instr.sliceBounds true len cap lo hi mx).run P w=.ok (l,h,m) w ->
   (Instr.slice t (.slice ad len cap) lo hi mx).run P w=.ok (.slice (if m=l then ad else ad.map (·.add (l * sz))) (h - l) (m - l)) w:=by
  intro ad len cap l h m hb
  simp only[Instr.slice,Sem.run_bind,run_underlying ht,Result.andThen_ok,hb,a4U hs,Sem.run_pure]
 unfold a0Q at h
 split at h
 ·rename_i id off len sz'
  split at h
  ·rename_i l hh hl hbh
   split at h
   ·rename_i hc
    injection h with h
    subst h
    obtain⟨c1,c2,rfl⟩:=hc
    cases hu with|ls _ _ _ _ cap b ad hb hcap ha =>
    refine⟨_,run (some ad) len cap l hh cap (a6K rl rh rm hl hbh rfl c1 (by omega) (g6U _) hmx),?_⟩
    have:(if cap=l then some ad else Option.map (λx=>x.add (l * sz')) (some ad))=some (if cap=l then ad else ad.add (l * sz')):=by split <;> rfl
    rw[this]
    refine .ls id _ _ sz' _ b _ hb (by omega) ?_
    by_cases h0:hh - l=0
    ·exact .inl h0
    ·rcases ha with ha|rfl
     ·omega
     ·exact .inr (by rw[if_neg (by omega),a4W])
   ·cases h
  ·cases h
 ·rename_i id len sz'
  split at h
  ·rename_i l hh hl hbh
   split at h
   ·rename_i hc
    obtain⟨c1,c2,rfl⟩:=hc
    cases hu with|bf _ _ _ cap b hb hcap hcc =>
    refine⟨_,run (some ⟨b,0,none⟩) len cap l hh cap (a6K rl rh rm hl hbh rfl c1 (by omega) (g6U _) hmx),?_⟩
    have:(if cap=l then some (⟨b,0,none⟩:Addr) else Option.map (λx:Addr=>x.add (l * sz')) (some ⟨b,0,none⟩))=some (if cap=l then ⟨b,0,none⟩ else Addr.add ⟨b,0,none⟩ (l * sz')):=by split <;> rfl
    rw[this]
    split at h
    ·rename_i hl0
     injection h with h
     subst h hl0
     have e2:(if cap=0 then (⟨b,0,none⟩:Addr) else Addr.add ⟨b,0,none⟩ (0 * sz'))=⟨b,0,none⟩:=by
      split
      ·rfl
      ·rw[a4W];simp
     rw[e2]
     exact .bf id _ sz' cap b hb (by omega) hcc
    ·injection h with h
     subst h
     refine .ls id _ _ sz' _ b _ hb (by omega) ?_
     by_cases h0:hh - l=0
     ·exact .inl h0
     ·exact .inr (by rw[if_neg (by omega),a4W,g7A])
   ·cases h
  ·cases h
 ·rename_i hnls hnbf
  split at h
  ·cases h
  ·rename_i es he
   obtain⟨⟨nl,htr⟩,ad,cap,rfl⟩:=a5V hu he
   obtain⟨_,hnl⟩:=htr.sl_inv
   split at h
   ·rename_i l hh m hl hbh hbm
    split at h
    ·rename_i hc
     obtain⟨c1,c2,c3,c4⟩:=hc
     have hcap:es.length<=cap:=by rcases hnl with⟨_,_,rfl,_⟩|⟨_,_,_,hcap⟩ <;> simp [*]
     have hbm':∃ m',bound xm cap=some m'/\hh<=m'/\m'<=cap/\(xm.isSome=true->m'=m):=by
      cases xm with
      |none=>exact⟨cap,rfl,by omega,g6U _,by simp⟩
      |some y =>
       refine⟨m,?_,c2,by omega,λ_=>rfl⟩
       rw[<-hbm]
       cases y <;> first|rfl|(rename_i y;cases y <;> rfl)
     obtain⟨m',b1,b2,b3,b4⟩:=hbm'
     have hrun:=run ad es.length cap l hh m' (a6K rl rh rm hl hbh b1 c1 b2 b3 hmx)
     have hlen:((es.take hh).drop l).length=hh - l:=by simp;omega
     rcases hnl with⟨rfl,rfl,rfl,rfl⟩|⟨rfl,q,rfl,_⟩
     ·-- nil
      simp only[g5Z] at c3 hrun
      have e1:m'=0:=by omega
      have e2:hh=0:=by omega
      have e3:l=0:=by omega
      subst e1 e2 e3
      refine⟨_,hrun,?_⟩
      simp only[if_true,Nat.sub_zero]
      have hx:x=.t (.sl true []):=by
       unfold elems at he
       split at he <;> simp only[g7G,reduceCtorEq] at he
       ·cases hu with|t hu=>cases hu;rfl
       ·cases hu
       ·cases hu
       ·cases hu
      subst hx
      split at h
      ·simp only[g7G] at h
       subst h
       exact .t .nsl
      ·simp only[g7G] at h
       subst h
       exact .t .nsl
     ·have hsub:TRep G.st w (.slice (some (if m'=l then q else q.add (l * sz))) (hh - l) (m' - l)) (.sl false ((es.take hh).drop l)):=htr.sub c1 (by omega) b2 c4
      have hif:(if m'=l then some q else Option.map (λx=>x.add (l * sz)) (some q))=some (if m'=l then q else q.add (l * sz)):=by split <;> rfl
      rw[hif] at hrun
      refine⟨_,hrun,?_⟩
      split at h
      ·-- a third index
       have hm':=b4 rfl
       subst hm'
       split at h
       ·obtain⟨_,h'|h'⟩:=hu.t_inv.sl_inv
        ·exact absurd h'.2.1 (by simp)
        ·exact absurd h'.1 (by simp)
       ·split at h
        ·rename_i hmh
         subst hmh
         injection h with h
         subst h
         have:=hsub
         rw[<-hlen] at this ⊢
         exact .cp _ _ this
        ·injection h with h
         subst h
         exact .t hsub
      ·split at h
       ·-- owned
        rename_i k z es'
        simp only[elems,g7G] at he
        subst he
        split at h
        ·rename_i hc0
         injection h with h
         subst h
         obtain⟨rfl,rfl⟩:=hc0
         have hm'':m'=cap:=by simpa [bound] using b1.symm
         subst hm''
         have:(if m'=0 then q else q.add (0 * sz))=q:=by split <;> simp [Addr.add]
         rw[this,Nat.sub_zero,Nat.sub_zero]
         exact hu
        ·injection h with h
         subst h
         exact .t hsub
       ·rename_i es'
        simp only[elems,g7G] at he
        subst he
        split at h
        ·rename_i hc0
         subst hc0
         injection h with h
         subst h
         have hm'':m'=cap:=by simpa [bound] using b1.symm
         subst hm''
         have hcl:m'=es'.length:=by
          obtain⟨_,hv,_⟩:=hu.cp_inv
          injection hv
         rw[List.take_length] at hsub hlen
         rw[hcl] at hsub ⊢
         rw[<-hlen] at hsub ⊢
         exact .cp _ _ hsub
        ·injection h with h
         subst h
         exact .t hsub
       ·rename_i es'
        simp only[elems,g7G] at he
        subst he
        injection h with h
        subst h
        exact .t hsub
       ·rename_i nl' es'
        simp only[elems,g7G] at he
        subst he
        injection h with h
        subst h
        obtain⟨_,h'|h'⟩:=hu.t_inv.sl_inv
        ·exact absurd h'.2.1 (by simp)
        ·rw[h'.1]
         exact .t hsub
       ·cases h
    ·cases h
   ·cases h
end Go.Pi
