/- PI 8: unary operators, conversions, slices, indexes, fields, parts. -/
import Derived.Test.YtdjcnfacjfnakaaGreatPi7
set_option linter.unusedSimpArgs false
set_option linter.unusedVariables false
namespace Go.Pi
variable {P:Program} {tb:Tb} {fx:List (Nat×Nat)} {gl:Nat->Option (List T)} {G:Gh} {w:World} {sg:Sg} {ow:Ow} {nt:Nat} {a:Act} {fr:List PV}
theorem a5U {op:UnOp} {u:Value} {x:PV} {r:T} (hu:PRep fx G w u x) (h:unT op x=some r):∃ v,(Op.unary op u).run P w=.ok v w/\PRep fx G w v (.t r):=by
 unfold unT at h
 split at h
 ·have:=hu.int_inv
  subst u
  split at h
  ·injection h with h
   subst h
   exact⟨_,by simp [Op.unary,Op.intArith],.tint _ _⟩
  ·simp only[a0D,g7F,g7G] at h
   subst h
   exact⟨_,by simp [Op.unary,Op.intBits],.tint _ _⟩
  ·cases h
 ·have:=hu.bool_inv
  subst u
  split at h
  ·injection h with h
   subst h
   exact⟨_,by simp [Op.unary],.tbool _⟩
  ·cases h
 ·cases h
theorem a5V {u:Value} {x:PV} {es:List (List T)} (hu:PRep fx G w u x) (h:elems x=some es):(∃ nl,TRep G.st w u (.sl nl es))/\∃ ad cap,u=.slice ad es.length cap:=by
 unfold elems at h
 split at h <;> simp only[g7G,reduceCtorEq] at h <;> subst h
 ·cases hu with|t hu=>exact⟨⟨_,hu⟩,by cases hu <;> exact⟨_,_,rfl⟩⟩
 ·cases hu with|cp ad _ hu=>exact⟨⟨_,hu⟩,_,_,rfl⟩
 ·cases hu with|lit b _ hu=>exact⟨⟨_,hu⟩,_,_,rfl⟩
 ·cases hu with|own _ _ _ ad cap _ hu=>exact⟨⟨_,hu⟩,_,_,rfl⟩
theorem a5W {u:Value} {x:PV} {n:Nat} {t:TypeId} {st:Bool} (hu:PRep fx G w u x) (ht:if st then P.underlying t=some .string else ∃ e,P.underlying t=some (.slice e)) (h:lenP st x=some n) (ty:TypeId) :
  (Builtin.len_ #[t] ty #[u]).run P w=.ok (.int .i64 n) w:=by
 unfold lenP at h
 split at h
 ·injection h with h
  subst h
  obtain⟨b,rfl,rfl⟩:=hu.str_inv
  simp only[if_true] at ht
  simp [Builtin.len_,run_underlying ht,goInt]
 ·cases h
 ·injection h with h
  subst h
  cases hu with|ls _ _ _ _ _ _ _ _ _ _ =>
  simp only[g4T,if_false] at ht
  obtain⟨e,ht⟩:=ht
  simp [Builtin.len_,run_underlying ht,goInt]
 ·injection h with h
  subst h
  cases hu with|bf _ _ _ _ _ _ _ _ =>
  simp only[g4T,if_false] at ht
  obtain⟨e,ht⟩:=ht
  simp [Builtin.len_,run_underlying ht,goInt]
 ·simp only[g7E] at h
  obtain⟨es,he,rfl⟩:=h
  obtain⟨_,ad,cap,rfl⟩:=a5V hu he
  simp only[g4T,if_false] at ht
  obtain⟨e,ht⟩:=ht
  simp [Builtin.len_,run_underlying ht,goInt]
theorem a5X (ad:Addr) (w:World):(Instr.sureAddr (.pointer (some ad))).run P w=.ok ad w:=rfl
theorem a5Y {u:Value} {x r:PV} {off:Nat} (hu:PRep fx G w u x) (h:fieldA off x=some r):∃ b o,u=.pointer (some ⟨b,o,none⟩)/\PRep fx G w (.pointer (some ⟨b,o+off,none⟩)) r:=by
 unfold fieldA at h
 split at h <;> simp only[g7G,reduceCtorEq] at h <;> subst h
 ·rename_i id o
  cases hu with|lp _ _ b hb=>exact⟨b,o,rfl,.lp _ _ b hb⟩
 ·rename_i cs o
  cases hu with|ip _ _ b q vs hc =>
  refine⟨b,q+o,rfl,?_⟩
  rw[Nat.add_assoc]
  exact .ip cs (o+off) b q vs hc
 ·rename_i g o
  cases hu with|gp _ _=>exact⟨g,o,rfl,.gp _ _⟩
theorem a5Z {t:TypeId} {fs:Array Field} {n s:Nat} {f:Field} {u:Value} {x r:PV} (ht:P.underlying t=some (.struct fs)) (hf:fs[n]?=some f) (hs:a2A P f.type=some s) (hs0:s≠0) (hu:PRep fx G w u x) (h:fieldA f.offset x=some r) :
  ∃ v,(Instr.fieldAt t u n).run P w=.ok v w/\PRep fx G w v r:=by
 obtain⟨b,o,rfl,hp⟩:=a5Y hu h
 refine⟨_,?_,hp⟩
 simp only[Instr.fieldAt,Sem.run_bind,run_underlying ht,Result.andThen_ok,hf,a5X,fieldPlace,a4U hs,Sem.run_ite,hs0,if_false,Sem.run_pure,a4W]
theorem a6A {t e:TypeId} {n sz:Nat} {u i:Value} {x y r:PV} (ht:P.underlying t=some (.array n e)) (hs:a2A P e=some sz) (hu:PRep fx G w u x) (hi:PRep fx G w i y) (h:indexA n sz x y=some r) :
  ∃ v,(Instr.indexAt t u i).run P w=.ok v w/\PRep fx G w v r:=by
 unfold indexA at h
 split at h
 ·rename_i k m
  have:=hi.int_inv
  subst i
  split at h
  ·rename_i hm
   obtain⟨b,o,rfl,hp⟩:=a5Y hu h
   refine⟨_,?_,hp⟩
   simp only[Instr.indexAt,asIntOf,Sem.run_bind,Sem.run_pure,Result.andThen_ok,run_underlying ht,a5X,Sem.run_ite]
   simp only[hm.1,hm.2,g7H,if_true,a4U hs,Result.andThen_ok,a4W]
  ·cases h
 ·cases h
theorem a6B {t e:TypeId} {sz:Nat} {u i:Value} {x y r:PV} (ht:P.underlying t=some (.slice e)) (hs:a2A P e=some sz) (hu:PRep fx G w u x) (hi:PRep fx G w i y) (h:indexS sz x y=some r) :
  ∃ v,(Instr.indexAt t u i).run P w=.ok v w/\PRep fx G w v r:=by
 unfold indexS at h
 split at h
 ·rename_i k m
  have:=hi.int_inv
  subst i
  split at h
  ·rename_i hm
   split at h
   ·rename_i id off len sz'
    split at h
    ·rename_i hc
     injection h with h
     subst h
     obtain⟨hlt,rfl⟩:=hc
     cases hu with|ls _ _ _ _ cap b ad hb hcap ha =>
     rcases ha with ha|rfl
     ·omega
     ·refine⟨_,?_,.lp id _ b hb⟩
      have hlt':m < (len:Int):=by omega
      simp only[Instr.indexAt,asIntOf,Sem.run_bind,Sem.run_pure,Result.andThen_ok,run_underlying ht,Sem.run_ite]
      simp only[hm,hlt',g7H,if_true,a4U hs,Result.andThen_ok,a4W]
    ·cases h
   ·rename_i id len sz'
    split at h
    ·rename_i hc
     injection h with h
     subst h
     obtain⟨hlt,rfl⟩:=hc
     cases hu with|bf _ _ _ cap b hb hcap _ =>
     refine⟨_,?_,.lp id _ b hb⟩
     have hlt':m < (len:Int):=by omega
     simp only[Instr.indexAt,asIntOf,Sem.run_bind,Sem.run_pure,Result.andThen_ok,run_underlying ht,Sem.run_ite]
     simp only[hm,hlt',g7H,if_true,a4U hs,Result.andThen_ok,a4W,g7A]
    ·cases h
   ·split at h
    ·rename_i es he
     split at h
     ·rename_i e' hes
      split at h
      ·rename_i hsz
       injection h with h
       subst h
       obtain⟨⟨nl,htr⟩,_⟩:=a5V hu he
       have hlt:m.toNat < es.length:=(g5O.1 hes).1
       cases htr with
       |nsl=>simp at hlt
       |sl ad cap sz0 _ vs hcap hsp hsz0 _ hc hr =>
        have hne:es≠[]:=λe=>by rw[e] at hlt;simp at hlt
        have hspot:=hsp hne
        obtain⟨bb,oo,ss⟩:=ad
        simp only at hspot
        subst hspot
        have hsz1:sz0=sz:=by rw[<-hsz0 e' (g6K hes),hsz]
        subst hsz1
        have hip:PRep fx G w (.pointer (some ⟨bb,(oo+m.toNat * sz0)+0,none⟩)) (.ip e' 0):=.ip e' 0 bb (oo+m.toNat * sz0) (vs m.toNat) λj x hj=>by
         obtain⟨h1,h2⟩:=hc m.toNat j e' x hes hj
         rw[Nat.add_assoc]
         exact⟨h1,h2,hr m.toNat j e' x hes hj⟩
        refine⟨_,?_,hip⟩
        have hlt':m < (es.length:Int):=by omega
        simp only[Instr.indexAt,asIntOf,Sem.run_bind,Sem.run_pure,Result.andThen_ok,run_underlying ht,Sem.run_ite]
        simp only[hm,hlt',g7H,if_true,a4U hs,Result.andThen_ok,a4W,g6R]
      ·cases h
     ·cases h
    ·cases h
  ·cases h
 ·cases h
theorem a6C {t:TypeId} {ag:Bool} {n off:Nat} {u:Value} {x r:PV} (hag:a1Z P t=some ag) (hsz:a2A P t=some n) (hu:PRep fx G w u x) (h:partV ag n off x=some r) :
  ∃ cs v,u=.agg cs/\(part t cs off).run P w=.ok v w/\PRep fx G w v r:=by
 unfold partV at h
 have fin:∀ (cs:Array Value) (xs:List PV),cs.size=xs.length->(∀ (j:Nat) (u:Value) (y:PV),cs[j]?=some u->xs[j]?=some y->PRep fx G w u y)->partP ag n xs off=some r->∃ v,(part t cs off).run P w=.ok v w/\PRep fx G w v r:=by
  intro cs xs hl hr hp
  rw[a4V hag hsz]
  rcases a4Q (P:=P) hl hr hag hsz hp with⟨rfl,_,hp⟩|⟨rfl,v,hv,hp⟩
  ·exact⟨_,rfl,hp⟩
  ·exact⟨v,by simp [hv],hp⟩
 split at h
 ·obtain⟨cs,rfl,hl,hr⟩:=hu.agg_inv
  rw[a4R] at h
  obtain⟨v,e,hp⟩:=fin cs _ (by simpa using hl) (λj u y hu hy=>by
   simp only[g5P,g7E] at hy
   obtain⟨q,hq,rfl⟩:=hy
   exact .t (hr j u q hu hq)) h
  exact⟨cs,v,rfl,e,hp⟩
 ·obtain⟨cs,rfl,hl,hr⟩:=hu.aggP_inv
  obtain⟨v,e,hp⟩:=fin cs _ hl hr h
  exact⟨cs,v,rfl,e,hp⟩
 ·cases h
theorem a6D {t:TypeId} {fs:Array Field} {k s:Nat} {ag:Bool} {f:Field} {u:Value} {x r:PV} (ht:P.underlying t=some (.struct fs)) (hf:fs[k]?=some f) (hag:a1Z P f.type=some ag) (hs:a2A P f.type=some s) (hu:PRep fx G w u x)
  (h:partV ag s f.offset x=some r):∃ v,(Instr.field t u k).run P w=.ok v w/\PRep fx G w v r:=by
 obtain⟨cs,v,rfl,e,hp⟩:=a6C (P:=P) hag hs hu h
 refine⟨v,?_,hp⟩
 simp only[Instr.field,Sem.run_bind,run_underlying ht,Result.andThen_ok,hf,asAgg,Sem.run_pure,e]
theorem a6E {t el:TypeId} {n s:Nat} {ag:Bool} {u i:Value} {x y r:PV} (ht:P.underlying t=some (.array n el)) (hag:a1Z P el=some ag) (hs:a2A P el=some s) (hu:PRep fx G w u x) (hi:PRep fx G w i y)
  (h:indexV ag n s x y=some r):∃ v,(Instr.index t u i).run P w=.ok v w/\PRep fx G w v r:=by
 unfold indexV at h
 split at h
 ·rename_i k m
  have:=hi.int_inv
  subst i
  split at h
  ·rename_i hm
   obtain⟨cs,v,rfl,e,hp⟩:=a6C (P:=P) hag hs hu h
   refine⟨v,?_,hp⟩
   simp only[Instr.index,asIntOf,Sem.run_bind,Sem.run_pure,Result.andThen_ok,run_underlying ht,Sem.run_ite]
   simp only[hm.1,hm.2,g7H,if_true,a4U hs,Result.andThen_ok,e]
  ·cases h
 ·cases h
theorem a6F (s:ByteArray) (i:Nat):s[i]?=s.data.toList[i]?:=by
 simp only[Array.getElem?_toList]
 by_cases h:i < s.size
 ·rw[getElem?_pos s i h,g4O (by simpa using h)];rfl
 ·rw[getElem?_neg s i h,Array.getElem?_eq_none (by simpa using h)]
theorem a6G {t:TypeId} {u i:Value} {x y r:PV} (ht:P.underlying t=some .string) (hu:PRep fx G w u x) (hi:PRep fx G w i y) (h:indexStr x y=some r) :
  ∃ v,(Instr.index t u i).run P w=.ok v w/\PRep fx G w v r:=by
 unfold indexStr at h
 split at h
 ·rename_i s k m
  have:=hi.int_inv
  subst i
  obtain⟨b,rfl,rfl⟩:=hu.str_inv
  split at h
  ·rename_i hm
   split at h
   ·rename_i c hc
    injection h with h
    subst h
    refine⟨.int .u8 c.toNat,?_,.tint _ _⟩
    simp only[Instr.index,asIntOf,Sem.run_bind,Sem.run_pure,Result.andThen_ok,run_underlying ht]
    rw[if_pos hm,a6F,hc]
    rfl
   ·cases h
  ·cases h
 ·cases h
end Go.Pi
