/- PI 23: calls; the theorem. Program independent. -/
import Derived.Test.YtcbgiabippcpaaaGreatDoorPi22
set_option linter.unusedSimpArgs false
set_option linter.unusedVariables false
namespace Go.Pi
variable {P:Program} {tb:Tb} {gl:Nat→Option (List T)} {G:Gh} {w:World} {C:Cal}
structure FnOk (P:Program) (tb:Tb) (F:Nat→Option Fn):Prop where
 tbo:TbOk P tb
 fn:∀ k g,(k,g)∈tb.fx→∀ q,F k=some q→∃ fn,P.funcs[g]?=some fn∧a3Z P tb fn=some q
def b4F (a:Act):ResultVar→Sem Value
 |.tmp t=>pure (a.tmps.getD t undef)
 |.cell p t=>do loadVar t (←asAddr (a.tmps.getD p undef))
theorem b4G {nt:Nat} {a:Act} {s:S} (hs:b3U tb gl nt G w a s) {r:ResultVar} {x:Nat×Option (Bool×Nat)} (h:a3Y P nt [r]=some [x]) {v:PV} (hv:a1O gl s x=some v) :
  ∃ u,(b4F a r).run P w=.ok u w∧PRep tb.fx G w u v:=by
 cases r with
 |tmp k =>
  simp only[a3Y] at h
  split at h
  ·rename_i hk
   simp only[g9F,g9G,g6K,g9K] at h
   subst h
   simp only[a1O,g9G] at hv
   subst hv
   exact⟨_,rfl,hs.2.2.2 k hk⟩
  ·cases h
 |cell k t =>
  simp only[a3Y] at h
  split at h
  ·rename_i ag n l h1 h2 h3
   split at h
   ·rename_i hk
    simp only[g9G] at h3
    subst h3
    simp only[g9G,g6K,g9K] at h
    subst h
    simp only[a1O] at hv
    have hp:=hs.2.2.2 k hk
    obtain⟨u,e1,e2⟩:=a5H (P:=P) hs.1 h1 h2 hp hv
    refine⟨u,?_,e2⟩
    have hptr:∃ q,a.tmps.getD k undef=.pointer (some q):=by
     generalize a.tmps.getD k undef=z at hp
     generalize a0A s.fr k=y at hp hv
     unfold loadP at hv
     split at hv
     ·cases hp;exact⟨_,rfl⟩
     ·cases hp;exact⟨_,rfl⟩
     ·cases hp;exact⟨_,rfl⟩
     ·cases hv
    obtain⟨q,hq⟩:=hptr
    rw[hq] at e1
    simpa [b4F,hq,Instr.loadAt,Instr.sureAddr,asAddr] using e1
   ·cases h
  ·cases h
theorem b4H {nt:Nat} {r:ResultVar} {rs:List ResultVar} {l:List (Nat×Option (Bool×Nat))} (h:a3Y P nt (r::rs)=some l):∃ x xs,l=x::xs∧a3Y P nt [r]=some [x]∧a3Y P nt rs=some xs:=by
 cases r with
 |tmp k =>
  simp only[a3Y] at h ⊢
  split at h
  ·rename_i hk
   simp only[g9E] at h
   obtain⟨xs,hxs,rfl⟩:=h
   exact⟨_,xs,rfl,by simp [hk],hxs⟩
  ·cases h
 |cell k t =>
  simp only[a3Y] at h ⊢
  split at h
  ·rename_i ag n xs h1 h2 h3
   split at h
   ·rename_i hk
    injection h with h
    exact⟨_,xs,h.symm,by simp [h1,h2,hk],h3⟩
   ·cases h
  ·cases h
theorem b4I {nt:Nat} {a:Act} {s:S} (hs:b3U tb gl nt G w a s):∀ (rs:List ResultVar) (l:List (Nat×Option (Bool×Nat))) (vs:List PV),a3Y P nt rs=some l→l.mapM (a1O gl s)=some vs →
  ∃ us:List Value,(rs.mapM (b4F a)).run P w=.ok us w∧us.length=vs.length∧∀ (i:Nat) (u:Value) (v:PV),us[i]?=some u→vs[i]?=some v→PRep tb.fx G w u v:=by
 intro rs
 induction rs with
 |nil =>
  intro l vs h hv
  simp only[a3Y,g9G] at h
  subst h
  simp at hv
  subst hv
  exact⟨[],by simp,rfl,by simp⟩
 |cons r rs ih =>
  intro l vs h hv
  obtain⟨x,xs,rfl,h1,h2⟩:=b4H h
  rw[g7R] at hv
  simp only[Option.bind_eq_bind,g9C,Option.pure_def,g9G] at hv
  obtain⟨v,hv1,vs',hv2,rfl⟩:=hv
  obtain⟨u,e1,e2⟩:=b4G (P:=P) hs h1 hv1
  obtain⟨us,f1,f2,f3⟩:=ih xs vs' h2 hv2
  refine⟨u::us,?_,by simp [f2],fun i u' v' hu hv=>?_⟩
  ·rw[g7R]
   simp only[Sem.run_bind]
   rw[e1]
   simp only[Result.andThen_ok,f1,Sem.run_pure]
  ·cases i with
   |zero=>simp at hu hv;subst hu hv;exact e2
   |succ i=>simp at hu hv;exact f3 i u' v' hu hv
theorem b4J {nt:Nat} {a:Act} {s:S} (hs:b3U tb gl nt G w a s) {fn:Func} {l:List (Nat×Option (Bool×Nat))} (h:a3Y P nt fn.results.toList=some l) {v:PV} (hv:a1P gl s l=some v) :
  ∃ u,(results fn a.tmps).run P w=.ok u w∧PRep tb.fx G w u v:=by
 unfold a1P at hv
 have hmap:∀ us:List Value,(fn.results.toList.mapM (b4F a)).run P w=.ok us w→(results fn a.tmps).run P w=.ok (if h:us.toArray.size=1 then us.toArray[0] else .tuple us.toArray) w:=by
  intro us hus
  have hres:results fn a.tmps=(do
    let rs ←fn.results.mapM (b4F a)
    pure (if h:rs.size=1 then rs[0] else .tuple rs)):=by
   unfold results
   congr 1
  rw[hres,Array.mapM_eq_mapM_toList]
  simp only[Sem.run_bind,Sem.run_map]
  rw[hus]
  simp only[Result.andThen_ok,Sem.run_pure]
 split at hv
 ·rename_i v0 hm
  injection hv with hv
  subst hv
  obtain⟨us,f1,f2,f3⟩:=b4I (P:=P) hs _ _ _ h hm
  have hr:=hmap us f1
  match us,f2 with
  |[u],_=>exact⟨u,by rw[hr];rfl,f3 0 u v0 rfl rfl⟩
 ·rename_i vs hne hm
  injection hv with hv
  subst hv
  obtain⟨us,f1,f2,f3⟩:=b4I (P:=P) hs _ _ _ h hm
  refine⟨.tuple us.toArray,?_,.tup us.toArray vs (by simpa using f2) (fun i u v hu hv=>f3 i u v (by simpa using hu) hv)⟩
  rw[hmap us f1]
  have:¬us.toArray.size=1:=by
   intro he
   match vs,f2,he with
   |[v],_,_=>exact hne v rfl
   |[],f2,he=>simp [g8H,f2] at he
   |_::_::_,f2,he=>simp [g8H,f2] at he
  rw[dif_neg this]
 ·cases hv
theorem b4K {F:Nat→Option Fn} (hF:FnOk P tb F):∀ n,a8X P tb gl (a1Q F gl n):=by
 intro n
 induction n with
 |zero=>intro f g args sg ow r sg' ow' h;simp [a1Q] at h
 |succ n ih =>
  intro f g args sg ow r sg' ow' h hfg G w vs hi hall
  simp only[a1Q] at h
  split at h
  ·cases h
  ·rename_i q hq
   obtain⟨fn,hfn,hcomp⟩:=hF.fn f g hfg q hq
   unfold a3Z at hcomp
   split at hcomp
   ·rename_i c res hbody hres
    split at hcomp
    ·rename_i hsz
     injection hcomp with hcomp
     subst hcomp
     simp only at h
     split at h
     ·rename_i hargs
      refine calls_of_wp hfn hbody ?_
      have hvs:vs.size=fn.params.size+fn.nfree:=by rw[hall.1,hargs]
      have hstart:b3U tb gl fn.ntmps G w { tmps:=vs++Array.replicate (fn.ntmps - vs.size) undef,defers:=[] } ⟨args,sg,ow⟩:=by
       refine⟨hi,rfl,by simp;omega,fun k hk=>?_⟩
       rw[a1W]
       simp only
       rcases g8V k vs.size with hlt|hge
       ·have h1:(vs++Array.replicate (fn.ntmps - vs.size) undef).getD k undef=vs[k]:=by
         simp [Array.getD,hlt];omega
        have hka:k < args.length:=by rw[←hall.1];exact hlt
        rw[h1]
        have h2:args.getD k und=args[k]:=by simp [List.getD,hka]
        rw[h2]
        exact hall.2 k _ _ (g5O hlt) (g6Z hka)
       ·have h1:(vs++Array.replicate (fn.ntmps - vs.size) undef).getD k undef=undef:=by
         simp only[Array.getD]
         split
         ·rename_i hk2
          rw[Array.getInternal_eq_getElem,Array.getElem_append_right hge]
          simp
         ·rfl
        have hka:args.length≤k:=by rw[←hall.1];exact hge
        rw[h1]
        have h2:args.getD k und=und:=by simp [List.getD,g7A hka]
        rw[h2]
        exact a1X _ _ _
      have fin:∀ (ex:Ex) (s1:S),(ex=.normal∨ex=.ret)→a1N (a1Q F gl n) gl n (a3X P tb fn.ntmps c) ⟨args,sg,ow⟩=some (ex,s1)→(a1P gl s1 res).map (fun v=>(v,s1.sg,s1.ow))=some (r,sg',ow') →
        c.wp P (bodyPost P fn fun e w'=>∃ v G',e=.returned v∧Ext G w G' w'∧Inv tb.fx gl G' w' sg' ow'∧PRep tb.fx G' w' v r) { tmps:=vs++Array.replicate (fn.ntmps - vs.size) undef,defers:=[] } w:=by
       intro ex s1 hex hrun hr
       simp only[g9E,Prod.mk.injEq] at hr
       obtain⟨v,hv,rfl,rfl,rfl⟩:=hr
       refine b4E hF.tbo ih n c _ s1 ex G w _ hstart hrun _ fun G' w' a' hE hs=>?_
       obtain⟨u,e1,e2⟩:=b4J (P:=P) hs hres hv
       have:a'.defers=[]∧∃ v',(results fn a'.tmps).run P w'=.ok v' w'∧∃ v0 G',Ending.returned v'=.returned v0∧Ext G w G' w'∧Inv tb.fx gl G' w' s1.sg s1.ow∧PRep tb.fx G' w' v0 v:=⟨hs.2.1,u,e1,u,G',rfl,hE,hs.1,e2⟩
       rcases hex with rfl|rfl
       ·exact this
       ·exact this
      split at h
      ·rename_i s1 hrun
       exact fin .normal s1 (.inl rfl) hrun h
      ·rename_i s1 hrun
       exact fin .ret s1 (.inr rfl) hrun h
      ·cases h
     ·cases h
    ·cases hcomp
   ·cases hcomp
end Go.Pi
