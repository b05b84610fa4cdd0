/- PI 23: calls; the theorem. -/
import Derived.Test.YtdjcnfacjfnakaaGreatPi22
import Derived.ChangeArms
import Derived.Lib.LaidTab
import Derived.Below
import Derived.Carry
import Derived.RowKit
import Derived.OpenShut
import Derived.ChangeSame
set_option linter.unusedSimpArgs false
set_option linter.unusedVariables false
namespace Go.Pi
variable {P:Program} {tb:Tb} {gl:Nat->Option (List T)} {G:Gh} {w:World} {C:Cal}
structure FnOk (P:Program) (tb:Tb) (F:Nat->Option Fn):Prop where
 tbo:TbOk P tb
 fn:∀ k g,(k,g)∈tb.fx->∀ q,F k=some q->∃ fn,P.funcs[g]?=some fn/\a3P P tb fn=some q
def b2G (a:Act):ResultVar->Sem Value
 |.tmp t=>pure (a.tmps.getD t undef)
 |.cell p t=>do loadVar t (<-asAddr (a.tmps.getD p undef))
theorem b2H {fx:List (Nat×Nat)} {u:Value} {v:PV} (h:PRep fx G w u v):PRep fx G w u (clo v):=by
 unfold clo
 split
 ·rename_i t ht
  exact .t (a7M h ht)
 ·exact h
inductive Mk1:Nat×Option (Bool×Nat)->Nat×Option (Bool×Nat)->Prop where
 |same (x):Mk1 x x
 |tree (k:Nat):Mk1 (k,none) (k,some (true,1000))
 |cell (k:Nat) (ag:Bool) (n:Nat) (h:n≠0) (h':n < 1000):Mk1 (k,some (ag,n)) (k,some (ag,n+1000))
inductive MkL:List (Nat×Option (Bool×Nat))->List (Nat×Option (Bool×Nat))->Prop where
 |refl (l):MkL l l
 |cons {x y l m} (h:Mk1 x y) (t:MkL l m):MkL (x::l) (y::m)
theorem b2I {nt:Nat}:∀ {rs:List ResultVar} {l:List (Nat×Option (Bool×Nat))},a3N P nt rs=some l->∀ k ag n,(k,some (ag,n))∈l->n < 1000:=by
 intro rs
 induction rs with
 |nil=>intro l h;simp only[a3N,g7G] at h;subst h;simp
 |cons r rs ih =>
  intro l h k ag n hm
  cases r with
  |tmp j =>
   simp only[a3N] at h
   split at h
   ·simp only[g7E] at h
    obtain⟨xs,hxs,rfl⟩:=h
    simp only[g6H,Prod.mk.injEq,reduceCtorEq,and_false,false_or] at hm
    exact ih hxs k ag n hm
   ·cases h
  |cell j t =>
   simp only[a3N] at h
   split at h
   ·rename_i ag' n' xs h1 h2 h3
    split at h
    ·rename_i hk
     injection h with h
     subst h
     simp only[g6H,Prod.mk.injEq,g7G] at hm
     rcases hm with⟨_,_,rfl⟩|hm
     ·exact hk.2
     ·exact ih h3 k ag n hm
    ·cases h
   ·cases h
theorem b2J (cz:List Nat):∀ (ts:List TypeId) (l:List (Nat×Option (Bool×Nat))),(∀ k ag n,(k,some (ag,n))∈l->n < 1000)->MkL l (a3O cz ts l):=by
 intro ts
 induction ts with
 |nil=>intro l _;cases l <;> exact .refl _
 |cons t ts ih =>
  intro l hl
  match l with
  |[]=>exact .refl _
  |(k,none)::r =>
   simp only[a3O]
   refine .cons ?_ (ih r λk ag n h=>hl k ag n (g6I _ h))
   split
   ·exact .tree k
   ·exact .same _
  |(k,some (ag,n))::r =>
   simp only[a3O]
   refine .cons ?_ (ih r λk ag n h=>hl k ag n (g6I _ h))
   split
   ·rename_i h;exact .cell k ag n h.2 (hl k ag n (by simp))
   ·exact .same _
theorem b2K {nt:Nat} {a:Act} {s:S} (hs:b1X tb gl nt G w a s) {r:ResultVar} {x:Nat×Option (Bool×Nat)} (h:a3N P nt [r]=some [x]) {v:PV} (hv:a1K gl s x=some v) :
  ∃ u,(b2G a r).run P w=.ok u w/\PRep tb.fx G w u v:=by
 cases r with
 |tmp k =>
  simp only[a3N] at h
  split at h
  ·rename_i hk
   simp only[g7F,g7G,g5D,and_true] at h
   subst h
   simp only[a1K,g7G] at hv
   subst hv
   exact⟨_,rfl,hs.2.2.2 k hk⟩
  ·cases h
 |cell k t =>
  simp only[a3N] at h
  split at h
  ·rename_i ag n l h1 h2 h3
   split at h
   ·rename_i hk
    simp only[g7G] at h3
    subst h3
    simp only[g7G,g5D,and_true] at h
    subst h
    simp only[a1K,if_pos hk.2] at hv
    have hp:=hs.2.2.2 k hk.1
    obtain⟨u,e1,e2⟩:=a4Y (P:=P) hs.1 h1 h2 hp hv
    refine⟨u,?_,e2⟩
    have hptr:∃ q,a.tmps.getD k undef=.pointer (some q):=by
     generalize a.tmps.getD k undef=z at hp
     generalize a0A s.fr k=y at hp hv
     unfold loadP at hv
     split at hv
     ·cases hp;exact⟨_,rfl⟩
     ·cases hp;exact⟨_,rfl⟩
     ·cases hp;exact⟨_,rfl⟩
     ·cases hv
    obtain⟨q,hq⟩:=hptr
    rw[hq] at e1
    simpa [b2G,hq,Instr.loadAt,Instr.sureAddr,asAddr] using e1
   ·cases h
  ·cases h
theorem b2L {nt:Nat} {a:Act} {s:S} (hs:b1X tb gl nt G w a s) {r:ResultVar} {x y:Nat×Option (Bool×Nat)} (hm:Mk1 x y) (h:a3N P nt [r]=some [x]) {v:PV} (hv:a1K gl s y=some v) :
  ∃ u,(b2G a r).run P w=.ok u w/\PRep tb.fx G w u v:=by
 cases hm with
 |same=>exact b2K hs h hv
 |tree k =>
  simp only[a1K,Nat.lt_irrefl,if_false,if_true,g7G] at hv
  subst hv
  obtain⟨u,h1,h2⟩:=b2K (P:=P) (v:=a0A s.fr k) hs h rfl
  exact⟨u,h1,b2H h2⟩
 |cell k ag n h0 hn =>
  simp only[a1K] at hv
  rw[if_neg (by omega),if_neg (by omega),Nat.add_sub_cancel] at hv
  simp only[g7E] at hv
  obtain⟨v',hv',rfl⟩:=hv
  obtain⟨u,h1,h2⟩:=b2K (P:=P) (v:=v') hs h (by simp only[a1K,if_pos hn];exact hv')
  exact⟨u,h1,b2H h2⟩
theorem b2M {nt:Nat} {r:ResultVar} {rs:List ResultVar} {l:List (Nat×Option (Bool×Nat))} (h:a3N P nt (r::rs)=some l):∃ x xs,l=x::xs/\a3N P nt [r]=some [x]/\a3N P nt rs=some xs:=by
 cases r with
 |tmp k =>
  simp only[a3N] at h ⊢
  split at h
  ·rename_i hk
   simp only[g7E] at h
   obtain⟨xs,hxs,rfl⟩:=h
   exact⟨_,xs,rfl,by simp [hk],hxs⟩
  ·cases h
 |cell k t =>
  simp only[a3N] at h ⊢
  split at h
  ·rename_i ag n xs h1 h2 h3
   split at h
   ·rename_i hk
    injection h with h
    exact⟨_,xs,h.symm,by simp [h1,h2,hk.1,hk.2],h3⟩
   ·cases h
  ·cases h
theorem b2N {nt:Nat} {a:Act} {s:S} (hs:b1X tb gl nt G w a s):∀ (rs:List ResultVar) (l l':List (Nat×Option (Bool×Nat))) (vs:List PV),MkL l l'->a3N P nt rs=some l->l'.mapM (a1K gl s)=some vs ->
  ∃ us:List Value,(rs.mapM (b2G a)).run P w=.ok us w/\us.length=vs.length/\∀ (i:Nat) (u:Value) (v:PV),us[i]?=some u->vs[i]?=some v->PRep tb.fx G w u v:=by
 intro rs
 induction rs with
 |nil =>
  intro l l' vs hm h hv
  simp only[a3N,g7G] at h
  subst h
  cases hm
  simp at hv
  subst hv
  exact⟨[],by simp,rfl,by simp⟩
 |cons r rs ih =>
  intro l l' vs hm h hv
  obtain⟨x,xs,rfl,h1,h2⟩:=b2M h
  obtain⟨y,ys,rfl,hy,hys⟩:∃ y ys,l'=y::ys/\Mk1 x y/\MkL xs ys:=by
   cases hm with
   |refl=>exact⟨x,xs,rfl,.same _,.refl _⟩
   |cons h t=>exact⟨_,_,rfl,h,t⟩
  rw[g6C] at hv
  simp only[Option.bind_eq_bind,g7C,Option.pure_def,g7G] at hv
  obtain⟨v,hv1,vs',hv2,rfl⟩:=hv
  obtain⟨u,e1,e2⟩:=b2L (P:=P) hs hy h1 hv1
  obtain⟨us,f1,f2,f3⟩:=ih xs ys vs' hys h2 hv2
  refine⟨u::us,?_,by simp [f2],λi u' v' hu hv=>?_⟩
  ·rw[g6C]
   simp only[Sem.run_bind]
   rw[e1]
   simp only[Result.andThen_ok,f1,Sem.run_pure]
  ·cases i with
   |zero=>simp at hu hv;subst hu hv;exact e2
   |succ i=>simp at hu hv;exact f3 i u' v' hu hv
theorem b2O {nt:Nat} {a:Act} {s:S} (hs:b1X tb gl nt G w a s) {fn:Func} {l l':List (Nat×Option (Bool×Nat))} (hm':MkL l l') (h:a3N P nt fn.results.toList=some l) {v:PV} (hv:a1L gl s l'=some v) :
  ∃ u,(results fn a.tmps).run P w=.ok u w/\PRep tb.fx G w u v:=by
 unfold a1L at hv
 have hmap:∀ us:List Value,(fn.results.toList.mapM (b2G a)).run P w=.ok us w->(results fn a.tmps).run P w=.ok (if h:us.toArray.size=1 then us.toArray[0] else .tuple us.toArray) w:=by
  intro us hus
  have hres:results fn a.tmps=(do
    let rs <-fn.results.mapM (b2G a)
    pure (if h:rs.size=1 then rs[0] else .tuple rs)):=by
   unfold results
   congr 1
  rw[hres,Array.mapM_eq_mapM_toList]
  simp only[Sem.run_bind,Sem.run_map]
  rw[hus]
  simp only[Result.andThen_ok,Sem.run_pure]
 split at hv
 ·rename_i v0 hm
  injection hv with hv
  subst hv
  obtain⟨us,f1,f2,f3⟩:=b2N (P:=P) hs _ _ _ _ hm' h hm
  have hr:=hmap us f1
  match us,f2 with
  |[u],_=>exact⟨u,by rw[hr];rfl,f3 0 u v0 rfl rfl⟩
 ·rename_i vs hne hm
  injection hv with hv
  subst hv
  obtain⟨us,f1,f2,f3⟩:=b2N (P:=P) hs _ _ _ _ hm' h hm
  refine⟨.tuple us.toArray,?_,.tup us.toArray vs (by simpa using f2) (λi u v hu hv=>f3 i u v (by simpa using hu) hv)⟩
  rw[hmap us f1]
  have:¬us.toArray.size=1:=by
   intro he
   match vs,f2,he with
   |[v],_,_=>exact hne v rfl
   |[],f2,he=>simp [g6O,f2] at he
   |_::_::_,f2,he=>simp [g6O,f2] at he
  rw[dif_neg this]
 ·cases hv
theorem b2P {F:Nat->Option Fn} (hF:FnOk P tb F):∀ n,a8L P tb gl (a1M F gl n):=by
 intro n
 induction n with
 |zero=>intro f g args sg ow r sg' ow' h;simp [a1M] at h
 |succ n ih =>
  intro f g args sg ow r sg' ow' h hfg G w vs hi hall
  simp only[a1M] at h
  split at h
  ·cases h
  ·rename_i q hq
   obtain⟨fn,hfn,hcomp⟩:=hF.fn f g hfg q hq
   unfold a3P at hcomp
   split at hcomp
   ·rename_i c res hbody hres
    split at hcomp
    ·rename_i hsz
     injection hcomp with hcomp
     subst hcomp
     simp only at h
     split at h
     ·rename_i hargs
      refine calls_of_wp hfn hbody ?_
      have hvs:vs.size=fn.params.size+fn.nfree:=by rw[hall.1,hargs]
      have hstart:b1X tb gl fn.ntmps G w { tmps:=vs++Array.replicate (fn.ntmps - vs.size) undef,defers:=[] } ⟨args,sg,ow⟩:=by
       refine⟨hi,rfl,by simp;omega,λk hk=>?_⟩
       rw[a1R]
       simp only
       rcases g6X k vs.size with hlt|hge
       ·have h1:(vs++Array.replicate (fn.ntmps - vs.size) undef).getD k undef=vs[k]:=by
         simp [Array.getD,hlt];omega
        have hka:k < args.length:=by rw[<-hall.1];exact hlt
        rw[h1]
        have h2:args.getD k und=args[k]:=by simp [List.getD,hka]
        rw[h2]
        exact hall.2 k _ _ (g4O hlt) (g5M hka)
       ·have h1:(vs++Array.replicate (fn.ntmps - vs.size) undef).getD k undef=undef:=by
         simp only[Array.getD]
         split
         ·rename_i hk2
          rw[Array.getInternal_eq_getElem,Array.getElem_append_right hge]
          simp
         ·rfl
        have hka:args.length<=k:=by rw[<-hall.1];exact hge
        rw[h1]
        have h2:args.getD k und=und:=by simp [List.getD,g5N hka]
        rw[h2]
        exact a1S _ _ _
      have fin:∀ (ex:Ex) (s1:S),(ex=.normal\/ex=.ret)->a1J (a1M F gl n) gl n (compC P tb fn.ntmps c) ⟨args,sg,ow⟩=some (ex,s1)->(a1L gl s1 (a3O tb.cz fn.resultTypes.toList res)).map (λv=>(v,s1.sg,s1.ow))=some (r,sg',ow') ->
        c.wp P (bodyPost P fn λe w'=>∃ v G',e=.returned v/\Ext G w G' w'/\Inv tb.fx gl G' w' sg' ow'/\PRep tb.fx G' w' v r) { tmps:=vs++Array.replicate (fn.ntmps - vs.size) undef,defers:=[] } w:=by
       intro ex s1 hex hrun hr
       simp only[g7E,Prod.mk.injEq] at hr
       obtain⟨v,hv,rfl,rfl,rfl⟩:=hr
       refine b2F hF.tbo ih n c _ s1 ex G w _ hstart hrun _ λG' w' a' hE hs=>?_
       obtain⟨u,e1,e2⟩:=b2O (P:=P) hs (b2J _ _ _ (b2I hres)) hres hv
       have:a'.defers=[]/\∃ v',(results fn a'.tmps).run P w'=.ok v' w'/\∃ v0 G',Ending.returned v'=.returned v0/\Ext G w G' w'/\Inv tb.fx gl G' w' s1.sg s1.ow/\PRep tb.fx G' w' v0 v:=⟨hs.2.1,u,e1,u,G',rfl,hE,hs.1,e2⟩
       rcases hex with rfl|rfl
       ·exact this
       ·exact this
      split at h
      ·rename_i s1 hrun
       exact fin .normal s1 (.inl rfl) hrun h
      ·rename_i s1 hrun
       exact fin .ret s1 (.inr rfl) hrun h
      ·cases h
     ·cases h
    ·cases hcomp
   ·cases hcomp
end Go.Pi

/- PI 24: what an argument's reading gives: a tree of its type. -/
namespace Go.Pi
variable {P:Program} {H:Type} {enc:TypeId×Value->H} {w:World} {sp:Nat->Bool} {held:Bool}
inductive CT where
 |bool
 |int (k:IntKind)
 |str
 |sl (e:List CT)
 |slr (t:Nat)
inductive Wt (env:Nat->List CT) (N:Nat):CT->T->Prop where
 |bool (b:Bool):Wt env N .bool (.bool b)
 |int (k:IntKind) (n:Int) (h1:k.min<=n) (h2:n<=k.max):Wt env N (.int k) (.int k n)
 |str (l:List UInt8) (h:l.length<=N):Wt env N .str (.str l)
 |nsl (c:List CT):Wt env N (.sl c) (.sl true [])
 |sl (c:List CT) (es:List (List T)) (hl:es.length<=N) (hc:∀ e,e∈es->e.length=c.length) (h:∀ e,e∈es->∀ (j:Nat) (y:CT) (x:T),c[j]?=some y->e[j]?=some x->Wt env N y x):Wt env N (.sl c) (.sl false es)
 |nslr (t:Nat):Wt env N (.slr t) (.sl true [])
 |slr (t:Nat) (es:List (List T)) (hl:es.length<=N) (hc:∀ e,e∈es->e.length=(env t).length) (h:∀ e,e∈es->∀ (j:Nat) (y:CT) (x:T),(env t)[j]?=some y->e[j]?=some x->Wt env N y x):Wt env N (.slr t) (.sl false es)
mutual
def tBk:T->Nat
 |.str s=>s.length+1
 |.sl _ es=>b2Q es+1
 |.agg cs=>b2R cs
 |_=>1
def b2R:List T->Nat
 |[]=>0
 |x::r=>tBk x+b2R r
def b2Q:List (List T)->Nat
 |[]=>0
 |e::r=>b2R e+b2Q r
end
theorem b2S (l r:List T):b2R (l++r)=b2R l+b2R r:=by
 induction l with
 |nil=>simp [b2R]
 |cons x l ih=>simp only[List.cons_append,b2R,ih];omega
theorem b2T (l r:List (List T)):b2Q (l++r)=b2Q l+b2Q r:=by
 induction l with
 |nil=>simp [b2Q]
 |cons x l ih=>simp only[List.cons_append,b2Q,ih];omega
structure BkOk {H:Type} (bk:DataW H->Nat) (bkA:List (DataW H)->Nat):Prop where
 one:∀ d,1<=bk d
 str:∀ l,l.length+1<=bk (.lit (.string l))
 sl:∀ a b,bkA a+1<=bk (.slice a b)
 agg:∀ ds,bkA ds<=bk (.agg ds)
 nil:bkA []=0
 cons:∀ d r,bkA (d::r)=bk d+bkA r
theorem BkOk.append {H:Type} {bk:DataW H->Nat} {bkA:List (DataW H)->Nat} (h:BkOk bk bkA) (l r:List (DataW H)):bkA (l++r)=bkA l+bkA r:=by
 induction l with
 |nil=>simp [h.nil]
 |cons x l ih=>simp only[List.cons_append,h.cons,ih];omega
structure BdOk {H:Type} (P:Program) (N:Nat) (B:TypeId->DataW H->Prop):Prop where
 str:∀ t l,B t (.lit (.string l))->l.length<=N
 sl:∀ t e a b,P.underlying t=some (.slice e)->0 < P.bytesOf e->B t (.slice a b)->a.length<=N/\∀ d,d∈a->B e d
 agg:∀ t fs ds,P.underlying t=some (.struct fs)->B t (.agg ds)->∀ (i:Nat) (f:Field) d,fs[i]?=some f->ds[i]?=some d->B f.type d
 arr:∀ t n e ds,P.underlying t=some (.array n e)->B t (.agg ds)->∀ d,d∈ds->B e d
theorem Wt.noAgg {env:Nat->List CT} {N:Nat} {c:CT} {x:T} (h:Wt env N c x):x.isAgg=false:=by cases h <;> rfl
def ctF (P:Program) (lv:TypeId->Option (List CT)):Nat->List Field->Option (List CT)
 |_,[]=>some []
 |n,f::r=>if f.offset=n then (match lv f.type with
  |some c=>if P.cellsOf f.type=c.length then (ctF P lv (n+c.length) r).map (c++·) else none
  |none=>none) else none
def b2U (P:Program) (rt:List Nat):Nat->TypeId->Option (List CT)
 |0,_=>none
 |n+1,t=>match P.underlying t with
  |some .bool=>some [.bool]
  |some (.int k)=>some [.int k]
  |some .string=>some [.str]
  |some (.slice e)=>if rt.contains e then some [.slr e] else match b2U P rt n e with
   |some c=>if P.cellsOf e=c.length/\0 < c.length/\0 < P.bytesOf e then some [.sl c] else none
   |none=>none
  |some (.struct fs)=>match ctF P (b2U P rt n) 0 fs.toList with
   |some c=>if P.cellsOf t=c.length then some c else none
   |none=>none
  |_=>none
def b2V (w:World) (b:Nat) (_:Nat):Prop:=b < w.heap.size
def b2W (P:Program) (rt:List Nat) (env:Nat->List CT):Prop:=∀ e,e∈rt->b2U P rt 20 e=some (env e)/\P.cellsOf e=(env e).length/\0 < (env e).length/\0 < P.bytesOf e
def RR (w:World) (env:Nat->List CT) (N:Nat) (cs:List Value) (ct:List CT) (xs:List T):Prop :=
 cs.length=ct.length/\xs.length=ct.length/\∀ (i:Nat) (v:Value) (c:CT) (x:T),cs[i]?=some v->ct[i]?=some c->xs[i]?=some x->TRep (b2V w) w v x/\Wt env N c x
theorem RR.one {env:Nat->List CT} {N:Nat} {v:Value} {c:CT} {x:T} (h1:TRep (b2V w) w v x) (h2:Wt env N c x):RR w env N [v] [c] [x] :=
 ⟨rfl,rfl,λi v' c' x' hv hc hx=>by
  cases i with
  |zero=>simp at hv hc hx;subst hv hc hx;exact⟨h1,h2⟩
  |succ i=>simp at hv⟩
theorem RR.append {env:Nat->List CT} {N:Nat} {cs1 cs2:List Value} {ct1 ct2:List CT} {xs1 xs2:List T} (h1:RR w env N cs1 ct1 xs1) (h2:RR w env N cs2 ct2 xs2):RR w env N (cs1++cs2) (ct1++ct2) (xs1++xs2):=by
 obtain⟨a1,b1,c1⟩:=h1
 obtain⟨a2,b2,c2⟩:=h2
 refine⟨by simp [a1,a2],by simp [b1,b2],λi v c x hv hc hx=>?_⟩
 rcases g6X i ct1.length with h|h
 ·rw[g5J (by omega)] at hv hc hx
  exact c1 i v c x hv hc hx
 ·rw[g5K (by omega)] at hv hc hx
  rw[a1] at hv
  rw[b1] at hx
  exact c2 _ v c x hv hc hx
theorem b2X {env:Nat->List CT} {N:Nat} {lv:TypeId->Option (List CT)} {rd:TypeId->List Value->Nat->Prop} (ih:∀ t ct,lv t=some ct->∀ cs m,rd t cs m->∃ xs,RR w env N cs ct xs/\b2R xs<=m):∀ (fs:List Field) (ms:List Nat) (n:Nat) (ct:List CT) (cs:List Value),ctF P lv n fs=some ct->ms.length=fs.length ->
  (∀ (i:Nat) (f:Field) (m:Nat),fs[i]?=some f->ms[i]?=some m->rd f.type ((cs.drop f.offset).take (P.cellsOf f.type)) m)->cs.length=n+ct.length->∃ xs,RR w env N (cs.drop n) ct xs/\b2R xs<=ms.sum:=by
 intro fs
 induction fs with
 |nil =>
  intro ms n ct cs h _ _ hl
  simp only[ctF,g7G] at h
  subst h
  refine⟨[],⟨?_,rfl,by simp⟩,by simp [b2R]⟩
  simp at hl
  simp [hl]
 |cons f r ih2 =>
  intro ms n ct cs h hml hr hl
  cases ms with
  |nil=>simp at hml
  |cons m ms =>
  simp only[ctF] at h
  split at h
  ·rename_i hoff
   split at h
   ·rename_i c hc
    split at h
    ·rename_i hsz
     simp only[g7E] at h
     obtain⟨ct2,hct2,rfl⟩:=h
     obtain⟨xs1,h1,b1⟩:=ih f.type c hc _ m (hr 0 f m rfl rfl)
     simp only[g5W] at hl
     obtain⟨xs2,h2,b2⟩:=ih2 ms (n+c.length) ct2 cs hct2 (by simpa using hml) (λi g m hg hm=>hr (i+1) g m (by simpa using hg) (by simpa using hm)) (by omega)
     refine⟨xs1++xs2,?_,by rw[b2S,List.sum_cons];omega⟩
     have:=h1.append h2
     rw[hoff,hsz] at this
     have e:(cs.drop n).take c.length++cs.drop (n+c.length)=cs.drop n:=by
      rw[<-g5E]
      exact g6P _ _
     rw[e] at this
     exact this
    ·cases h
   ·cases h
  ·cases h
theorem b2Y {a:Addr} {v:Value} (h:w.cell? a=some v):a.block < w.heap.size:=by
 unfold World.cell? at h
 split at h
 ·rename_i c t z hb
  exact(g4P.1 hb).1
 ·cases h
theorem b2Z {a:Addr} {v:Value} (h:w.cell? a=some v):a.spot=none:=by
 unfold World.cell? at h
 split at h
 ·split at h
  ·cases h
  ·rename_i hs
   simpa using hs
 ·cases h
theorem b3A {env:Nat->List CT} {N:Nat} {B:TypeId->DataW H->Prop} (hB:BdOk P N B) {bk:DataW H->Nat} {bkA:List (DataW H)->Nat} (hbk:BkOk bk bkA) {t e:TypeId} (ht:P.underlying t=some (.slice e)) {k:CT} {c:List CT} (hsz:P.cellsOf e=c.length/\0 < c.length/\0 < P.bytesOf e) (hk0:Wt env N k (.sl true []))
  (hk:∀ es:List (List T),es.length<=N->(∀ e,e∈es->e.length=c.length)->(∀ e,e∈es->∀ (j:Nat) (y:CT) (x:T),c[j]?=some y->e[j]?=some x->Wt env N y x)->Wt env N k (.sl false es))
  {fuel:Nat} (ih:∀ m,fuel=m+1->∀ (cs:List Value) (x:DataW H×List MemPlace),DataW.trod enc P w 0 sp held m e cs=some x->B e x.1->∃ xs,RR w env N cs c xs/\b2R xs<=bk x.1)
  (cs:List Value) (x:DataW H×List MemPlace) (hd:DataW.trod enc P w 0 sp held fuel t cs=some x) (hb:B t x.1):∃ xs,RR w env N cs [k] xs/\b2R xs<=bk x.1:=by
 rcases DataW.trod_slice ht hd with⟨rfl,_⟩|⟨a,len,cap,elems,rest,m,hm,rfl,hx,_,hlc,hcm,hel,hat,_⟩
 ·exact⟨_,.one .nsl hk0,by simpa [b2R,tBk,b2Q] using hbk.one _⟩
 ·subst hx
  obtain⟨hbl,hbe⟩:=hB.sl t e _ _ ht hsz.2.2 hb
  rw[g5Y] at hbl
  have hone:∀ i,i < len->∃ (cs':List Value) (xs:List T) (y:DataW H×List MemPlace),elems[i]?=some y/\w.cells? 0 (a.add (i * c.length)) c.length=some cs'/\RR w env N cs' c xs/\b2R xs<=bk y.1:=by
   intro i hi
   have h1:=hat i hi
   rw[hsz.1,g5M (by omega),g7C] at h1
   obtain⟨cs',h2,h3⟩:=h1
   obtain⟨xs,hx,hb1⟩:=ih m hm cs' _ h3 (hbe _ (List.mem_map.2 ⟨_,List.getElem_mem _,rfl⟩))
   exact⟨cs',xs,_,g5M (by omega),h2,hx,hb1⟩
  have hex:∀ m,m<=len->∃ (es:List (List T)) ,es.length=m/\b2Q es<=bkA ((elems.take m).map (·.1))/\∀ (i:Nat) (xs:List T),es[i]?=some xs->∃ cs',w.cells? 0 (a.add (i * c.length)) c.length=some cs'/\RR w env N cs' c xs:=by
   intro m
   induction m with
   |zero=>intro _;exact⟨[],rfl,by simp [b2Q],by simp⟩
   |succ m ihm =>
    intro hm
    obtain⟨es,e1,e3,e2⟩:=ihm (by omega)
    obtain⟨cs',xs,y,hy,h1,h2,hb2⟩:=hone m (by omega)
    refine⟨es++[xs],by simp [e1],?_,λi ys hi=>?_⟩
    ·rw[List.take_add_one,hy,g6D,hbk.append,b2T]
     simp only[Option.toList_some,g6E,g6F,hbk.cons,hbk.nil,b2Q]
     omega
    rcases g6X i es.length with hlt|hge
    ·rw[g5J hlt] at hi
     exact e2 i ys hi
    ·rw[g5K hge] at hi
     have h0:i - es.length=0:=by
      rcases Nat.eq_zero_or_pos (i - es.length) with h0|h0
      ·exact h0
      ·rw[g5N (by simp;omega)] at hi;cases hi
     rw[h0] at hi
     simp at hi
     subst hi
     have:i=m:=by omega
     subst this
     exact⟨cs',h1,h2⟩
  obtain⟨es,hes,hbs,hall⟩:=hex len (g6U _)
  rw[List.take_of_length_le (by omega)] at hbs
  have hcell:∀ (i j:Nat) (ys:List T) (x:T),es[i]?=some ys->ys[j]?=some x->∃ v,w.cell? ⟨a.block,a.off+(i * c.length+j),none⟩=some v/\b2V w a.block (a.off+(i * c.length+j))/\TRep (b2V w) w v x/\(i=0->j=0->a.spot=none):=by
   intro i j ys x hi hj
   obtain⟨cs',h1,h2,h3,h4⟩:=hall i ys hi
   have hjl:j < c.length:=by have:=(g5O.1 hj).1;omega
   unfold World.cells? at h1
   rw[if_pos (g7B _)] at h1
   obtain⟨v,hv1,hv2⟩:=Lib.mapM_at h1 j j (by simp [hjl])
   obtain⟨r1,_⟩:=h4 j v c[j] x hv1 (g5M hjl) hj
   have hsp:=b2Z hv2
   have haddr:(a.add (i * c.length)).add j=⟨a.block,a.off+(i * c.length+j),none⟩:=by
    have e1:((a.add (i * c.length)).add j).block=a.block:=by unfold Addr.add;split <;> split <;> rfl
    have e2:((a.add (i * c.length)).add j).off=a.off+(i * c.length+j):=by unfold Addr.add;split <;> split <;> simp_all <;> omega
    generalize (a.add (i * c.length)).add j=q at e1 e2 hsp
    cases q
    simp_all
   have hlt:=b2Y hv2
   rw[haddr] at hv2 hlt
   refine⟨v,hv2,hlt,r1,λh0 h0'=>?_⟩
   subst h0 h0'
   simpa [Addr.add] using hsp
  refine⟨[.sl false es],.one ?_ ?_,by have:=hbk.sl (elems.map (·.1)) (rest.map (·.1));simp only[b2R,tBk];omega⟩
  ·have hlen:∀ e,e∈es->e.length=c.length:=λe he=>by
    obtain⟨i,hi⟩:=g6J.1 he
    obtain⟨cs',_,h2⟩:=hall i e hi
    exact h2.2.1
   rw[<-hes]
   refine .sl a cap c.length es (λi j=>(w.cell? ⟨a.block,a.off+(i * c.length+j),none⟩).getD undef) (by omega) (λhne=>?_) hlen (λe he x hx=>?_) (λi j e x hi hj=>?_) (λi j e x hi hj=>?_)
   ·match es,hne,hcell,hlen with
    |e0::r,_,hcell,hlen =>
     have h0:0 < e0.length:=by rw[hlen e0 (by simp)];exact hsz.2.1
     obtain⟨v,_,_,_,h⟩:=hcell 0 0 e0 e0[0] rfl (g5M h0)
     exact h rfl rfl
   ·obtain⟨i,hi⟩:=g6J.1 he
    obtain⟨j,hj⟩:=g6J.1 hx
    obtain⟨cs',_,h2,h3,h4⟩:=hall i e hi
    have hjl:j < c.length:=by have:=(g5O.1 hj).1;omega
    exact(h4 j cs'[j] c[j] x (g5M (by omega)) (g5M hjl) hj).2.noAgg
   ·obtain⟨v,h1,h2,h3,_⟩:=hcell i j e x hi hj
    exact⟨by rw[h1];rfl,h2⟩
   ·obtain⟨v,h1,h2,h3,_⟩:=hcell i j e x hi hj
    simp only[h1,g7D]
    exact h3
  ·refine hk es (by omega) (λe he=>?_) λe he j y x hy hx=>?_
   ·obtain⟨i,hi⟩:=g6J.1 he
    obtain⟨cs',_,h2⟩:=hall i e hi
    exact h2.2.1
   ·obtain⟨i,hi⟩:=g6J.1 he
    obtain⟨cs',_,h2,h3,h4⟩:=hall i e hi
    have hjl:j < c.length:=(g5O.1 hy).1
    exact(h4 j cs'[j] y x (g5M (by omega)) hy hx).2
theorem b3B {rt:List Nat} {env:Nat->List CT} (henv:b2W P rt env) {N:Nat} {B:TypeId->DataW H->Prop} (hB:BdOk P N B) {bk:DataW H->Nat} {bkA:List (DataW H)->Nat} (hbk:BkOk bk bkA):∀ (fuel n:Nat) (t:TypeId) (ct:List CT),b2U P rt n t=some ct->∀ (cs:List Value) (x:DataW H×List MemPlace),DataW.trod enc P w 0 sp held fuel t cs=some x->B t x.1->∃ xs,RR w env N cs ct xs/\b2R xs<=bk x.1:=by
 intro fuel
 induction fuel with
 |zero=>intro n t ct h cs x hd;simp [DataW.trod] at hd
 |succ fuel ih =>
  intro n t ct h cs x hd hb
  cases n with
  |zero=>simp [b2U] at h
  |succ n =>
  simp only[b2U] at h
  split at h
  ·rename_i ht
   injection h with h
   subst h
   obtain⟨b,rfl,_⟩:=DataW.trod_bool ht hd
   exact⟨_,.one (.bool b) (.bool b),by simpa [b2R,tBk] using hbk.one _⟩
  ·rename_i k ht
   injection h with h
   subst h
   obtain⟨z,rfl,_,hw⟩:=DataW.trod_int ht hd
   simp only[Lit.wf,g4S,g7L] at hw
   exact⟨_,.one (.int k z) (.int k z hw.1 hw.2),by simpa [b2R,tBk] using hbk.one _⟩
  ·rename_i ht
   injection h with h
   subst h
   obtain⟨s,rfl,hx,hs⟩:=DataW.trod_string ht hd
   subst hx
   exact⟨_,.one (.str s) (.str _ (hB.str _ _ hb)),by have:=hbk.str s.data.toList;simp only[b2R,tBk];omega⟩
  ·rename_i e ht
   split at h
   ·rename_i hrt
    injection h with h
    subst h
    obtain⟨q1,q2⟩:=henv e (by simpa using hrt)
    refine b3A hB hbk ht q2 (.nslr e) (λes h1 h2 h3=>.slr e es h1 h2 h3) (λm hm cs x h1 h2=>?_) cs x hd hb
    injection hm with hm
    subst hm
    exact ih 20 e _ q1 cs x h1 h2
   split at h
   ·rename_i c hc
    split at h
    ·rename_i hsz
     injection h with h
     subst h
     refine b3A hB hbk ht hsz (.nsl c) (λes h1 h2 h3=>.sl c es h1 h2 h3) (λm hm cs x h1 h2=>?_) cs x hd hb
     injection hm with hm
     subst hm
     exact ih n e c hc cs x h1 h2
    ·cases h
   ·cases h
  ·rename_i fs ht
   split at h
   ·rename_i c hc
    split at h
    ·rename_i hsz
     injection h with h
     subst h
     obtain⟨xs,m,hm,rfl,hl,hxl,hat⟩:=DataW.trod_struct ht hd
     injection hm with hm
     subst hm
     have:=b2X (P:=P) (w:=w) (lv:=b2U P rt n) (rd:=λt cs m=>∃ x,DataW.trod enc P w 0 sp held fuel t cs=some x/\B t x.1/\bk x.1=m) (λt ct hct cs m ⟨x,hx,hbx,hm⟩=>hm ▸ ih n t ct hct cs x hx hbx) fs.toList (xs.map λx=>bk x.1) 0 c cs hc (by simpa using hxl) (λi f m hi hmi=>by
      have hil:i < fs.size:=by have:=(g5O.1 hi).1;simpa using this
      have h1:=hat i f (by simpa using hi)
      rw[g5M (by omega)] at h1
      rw[g5P,g5M (by omega),g7F,g7G] at hmi
      exact⟨_,h1,hB.agg t fs _ ht hb i f _ (by simpa using hi) (by rw[g5P,g5M (by omega)];rfl),hmi⟩) (by omega)
     obtain⟨ys,hy1,hy2⟩:=this
     have hsum:∀ l:List (DataW H×List MemPlace),(l.map λx=>bk x.1).sum=bkA (l.map (·.1)):=by
      intro l
      induction l with
      |nil=>simp [hbk.nil]
      |cons z l ihl=>simp only[g6E,List.sum_cons,hbk.cons,ihl]
     rw[hsum] at hy2
     exact⟨ys,by simpa using hy1,g6V hy2 (hbk.agg _)⟩
    ·cases h
   ·cases h
  ·cases h
end Go.Pi

/- PI 25: from the interpreter's word to the row's 'post'. -/
namespace Go.Pi
open Go.ChangeShapes Go.WideShapes Go.RowKit
variable {P:Program} {H:Type} {enc:TypeId×Value->H} {w:World} {sp:Nat->Bool} {held:Bool}
def b3C (P:Program) (rt:List Nat) (t:TypeId):Option (Bool×List CT) :=
 match b2U P rt 20 t with
 |some ct=>match P.underlying t with
  |some (.struct _)=>some (true,ct)
  |_=>some (false,ct)
 |none=>none
def b3D (env:Nat->List CT) (N:Nat):Bool×List CT->T->Prop
 |(true,ct),x=>∃ xs,x=.agg xs/\xs.length=ct.length/\∀ (i:Nat) (c:CT) (y:T),ct[i]?=some c->xs[i]?=some y->Wt env N c y
 |(false,ct),x=>∃ c,ct=[c]/\Wt env N c x
def b3E (env:Nat->List CT) (N:Nat):List (Bool×List CT)->List T->Prop
 |[],[]=>True
 |a::r,x::xs=>b3D env N a x/\b3E env N r xs
 |_,_=>False
theorem b3F {rt:List Nat} {env:Nat->List CT} (henv:b2W P rt env) {N:Nat} {B:TypeId->DataW H->Prop} (hB:BdOk P N B) {bk:DataW H->Nat} {bkA:List (DataW H)->Nat} (hbk:BkOk bk bkA) {r:Reach} {base:Nat} {t:TypeId} {v:Value} {d:DataW H} {ps:List MemPlace} {a:Bool×List CT} (hok:Value.okWide P w r base t v) (h:DataW.Trod enc P w 0 sp held t v d ps) (ha:b3C P rt t=some a) (hb:B t d) :
  ∃ x,TRep (b2V w) w v x/\b3D env N a x/\tBk x<=bk d:=by
 obtain⟨fuel,h⟩:=h
 unfold b3C at ha
 split at ha
 ·rename_i ct hct
  obtain⟨xs,⟨e1,e2,e3⟩,e4⟩:=b3B henv hB hbk fuel 20 t ct hct _ _ h hb
  have hag:∀ cs:Array Value,v=.agg cs->cs.size=P.cellsOf t->∃ x,TRep (b2V w) w v x/\b3D env N (true,ct) x/\tBk x<=bk d:=by
   intro cs hv _
   subst hv
   simp only[Value.cells] at e1 e3
   rw[g4R] at e1
   refine⟨.agg xs,.agg cs xs (by omega) λi u x hu hx=>?_,⟨xs,rfl,e2,λi c y hc hy=>?_⟩,e4⟩
   ·have hi:i < ct.length:=by have:=(g5O.1 hx).1;omega
    exact(e3 i u ct[i] x (by simpa using hu) (g5M hi) hx).1
   ·have hi:i < cs.size:=by have:=(g5O.1 hc).1;omega
    exact(e3 i cs[i] c y (by simp [hi]) hc hy).2
  unfold Value.okWide at hok
  split at ha
  ·rename_i fs ht
   injection ha with ha
   subst ha
   rw[ht] at hok
   obtain⟨cs,hv,hs,_⟩:=hok
   exact hag cs hv hs
  ·rename_i hn1
   injection ha with ha
   subst ha
   have hct1:ct.length=1:=by
    unfold b2U at hct
    split at hct <;> first
     |(injection hct with hct;subst hct;rfl)
     |(rename_i ht;exact absurd ht (hn1 _))
     |(split at hct
       ·injection hct with hct;subst hct;rfl
       split at hct
       ·split at hct
        ·injection hct with hct;subst hct;rfl
        ·cases hct
       ·cases hct)
     |cases hct
   match ct,hct1,xs,e2 with
   |[c],_,[x],_ =>
    have hv:v.cells.toList=[v]:=by
     have hl:v.cells.toList.length=1:=e1
     have hcell:Cell.okWide P w r base t v:=by
      revert hok
      split
      ·rename_i fs ht;exact absurd ht (hn1 fs)
      ·rename_i k e ht
       unfold b2U at hct
       rw[ht] at hct
       cases hct
      ·exact id
     cases v with
     |agg cs =>
      exfalso
      unfold Cell.okWide at hcell
      split at hcell <;> simp_all [Cell.ok]
     |_=>rfl
    rw[hv] at e3
    obtain⟨q1,q2⟩:=e3 0 v c x rfl rfl rfl
    exact⟨x,q1,⟨c,rfl,q2⟩,by simpa [b2R] using e4⟩
 ·cases ha
theorem b3G {rt:List Nat} {env:Nat->List CT} (henv:b2W P rt env) {N:Nat} {B:TypeId->DataW H->Prop} (hB:BdOk P N B) {bk:DataW H->Nat} {bkA:List (DataW H)->Nat} (hbk:BkOk bk bkA) {r:Reach} {base:Nat}:∀ (ts:List TypeId) (as:List (Bool×List CT)) (vs:List Value) (ds:List (DataW H)) (ps:List MemPlace),ts.map (b3C P rt)=as.map some->DataW.TrodAll enc P w 0 sp held ts vs ds ps ->
  (∀ (j:Nat) (t:TypeId) (v:Value),ts[j]?=some t->vs[j]?=some v->Value.okWide P w r base t v)->(∀ (j:Nat) (t:TypeId) (d:DataW H),ts[j]?=some t->ds[j]?=some d->B t d)->∃ xs,xs.length=vs.length/\ds.length=as.length/\b3E env N as xs/\b2R xs<=bkA ds/\∀ (i:Nat) (v:Value) (x:T),vs[i]?=some v->xs[i]?=some x->TRep (b2V w) w v x:=by
 intro ts
 induction ts with
 |nil =>
  intro as vs ds ps hm h _ _
  obtain⟨rfl,rfl,rfl⟩:=trodAll_nil h
  match as,hm with
  |[],_=>exact⟨[],rfl,rfl,trivial,by simp [b2R],by simp⟩
 |cons t ts ih =>
  intro as vs ds ps hm h hok hbd
  obtain⟨v,vs',d,ds',p,q,rfl,rfl,rfl,h1,h2⟩:=trodAll_cons h
  match as,hm with
  |a::as,hm =>
   simp only[g6E,g5D] at hm
   obtain⟨x,x1,x2,x3⟩:=b3F henv hB hbk (hok 0 t v rfl rfl) h1 hm.1 (hbd 0 t d rfl rfl)
   obtain⟨xs,y1,y0,y2,y4,y3⟩:=ih as vs' ds' q hm.2 h2 (λj t v hj hv=>hok (j+1) t v (by simpa using hj) (by simpa using hv)) λj t d hj hd=>hbd (j+1) t d (by simpa using hj) (by simpa using hd)
   refine⟨x::xs,by simp [y1],by simp [y0],⟨x2,y2⟩,by simp only[b2R,hbk.cons];omega,λi v' x' hv hx=>?_⟩
   cases i with
   |zero=>simp at hv hx;subst hv hx;exact x1
   |succ i=>simp at hv hx;exact y3 i v' x' hv hx
theorem b3H (hl:laidOutB P=true) {W W':World} (hb:Below W.heap.size W W') {sp':Nat->Bool}:∀ (ts:List TypeId) (vs:List Value) (ds:List (DataW H)) (ps:List MemPlace),(∀ t,t∈ts->P.readableRec t=true/\t < P.types.size) ->
  DataW.TrodAll enc P W 0 (λ_=>true) true ts vs ds ps->(∀ x∈ps,x.block < W.heap.size)->(∀ x∈ps,sp' x.block=true)->DataW.TrodAll enc P W' 0 sp' true ts vs ds ps:=by
 intro ts
 induction ts with
 |nil =>
  intro vs ds ps _ h _ _
  obtain⟨rfl,rfl,rfl⟩:=trodAll_nil h
  exact trodAll_mk0
 |cons t ts ih =>
  intro vs ds ps hr h hlt hsp
  obtain⟨v,vs',d,ds',p,q,rfl,rfl,rfl,h1,h2⟩:=trodAll_cons h
  have hrt:=hr t (by simp)
  refine trodAll_cons_mk (WideElems.Trod_stays hl hrt.1 hrt.2 h1 (λx hx=>hb.same (hlt x (by simp [hx]))) λx hx=>hsp x (by simp [hx])) ?_
  exact ih vs' ds' q (λt ht=>hr t (by simp [ht])) h2 (λx hx=>hlt x (by simp [hx])) λx hx=>hsp x (by simp [hx])
def b3I (gl:Nat->Option (List T)) (W:World):Prop:=∀ (g:Nat) (ts:List T) (j:Nat) (x:T),gl g=some ts->ts[j]?=some x->∃ v,W.cell? ⟨g,j,none⟩=some v/\TRep (b2V W) W v x/\b2V W g j
theorem b3J {tb:Tb} {F:Nat->Option Fn} {gl:Nat->Option (List T)} (hF:FnOk P tb F) {k g:Nat} (hk:(k,g)∈tb.fx) {W:World} {args:Array Value} {xs:List T} (hgl:b3I gl W) (hl:xs.length=args.size)
  (hx:∀ (i:Nat) (v:Value) (x:T),args[i]?=some v->xs[i]?=some x->TRep (b2V W) W v x) {n:Nat} {b:Bool} {sg:Sg} {ow:Ow} (hp:a1M F gl n k (xs.map .t) [] []=some (.t (.bool b),sg,ow)) :
  Calls P g args W λe W'=>e=.returned (.bool b)/\Below W.heap.size W W':=by
 have hI:Inv tb.fx gl ⟨[],[],[],b2V W,W.heap.size⟩ W [] []:=⟨rfl,rfl,by simp,by simp,by simp,rfl,by simp,by simp,by simp,λb o h=>h,hgl,g6U _⟩
 refine(b2P hF n k g _ [] [] _ sg ow hp hk ⟨[],[],[],b2V W,W.heap.size⟩ W args hI ⟨by simpa using hl.symm,λi v x hv hxi=>?_⟩).mono λe W' ⟨v,G',he,hE,_,hv⟩=>?_
 ·simp only[g5P,g7E] at hxi
  obtain⟨q,hq,rfl⟩:=hxi
  exact .t (hx i v q hv hq)
 ·have:=hv.bool_inv
  subst this
  refine⟨he,hE.os,hE.tape,hE.output,hE.size,λb hb=>?_⟩
  rcases hE.keep b hb (by simp) (by simp) with h|⟨h,_⟩
  ·exact h
  ·simp only at h;omega
theorem contract {rt:List Nat} {env:Nat->List CT} (henv:b2W P rt env) {N:Nat} {B:TypeId->DataW H->Prop} (hB:BdOk P N B) {bk:DataW H->Nat} {bkA:List (DataW H)->Nat} (hbk:BkOk bk bkA) (M:Nat) {tb:Tb} {F:Nat->Option Fn} {gl:Nat->Option (List T)} (hF:FnOk P tb F) {k g:Nat} (hk:(k,g)∈tb.fx) {f:Func} {s:ChangeSpec} {apart fresh handsOn again:Bool} {as:List (Bool×List CT)} {t0:TypeId}
  (hct:f.params.toList.map (b3C P rt)=as.map some) (hlo:laidOutB P=true) (hread:∀ t,t∈f.params.toList->P.readableRec t=true/\t < P.types.size) (hvars:s.vars=[])
  (hfn:∀ ds:List (DataW H),ds.length=as.length->s.fn H ds={ results:=[.lit (.bool true)],args:=ds }) (hres:f.resultTypes=#[t0]) (ht0:P.underlying t0=some .bool)
  (hlaw:∀ xs,b3E env N as xs->b2R xs<=M->∃ n sg ow,a1M F gl n k (xs.map .t) [] []=some (.t (.bool true),sg,ow))
  {W:World} {base:Nat} {args:Array Value} {ds gs:List (DataW H)} {a3E:List MemPlace} (hgl:b3I gl W) (hval:∀ (j:Nat) t v,f.params[j]?=some t->args[j]?=some v->Value.okWide P W .any base t v)
  (hW:DataW.Whole enc P f.params.toList s.vars apart W args.toList ds gs a3E) (hbd:∀ (j:Nat) (t:TypeId) (d:DataW H),f.params.toList[j]?=some t->ds[j]?=some d->B t d) (hM:bkA ds<=M) :
  Calls P g args W λe W'=>∃ v,e=.returned v/\s.post enc P f apart fresh handsOn again W args v W':=by
 have hW':=hW
 obtain⟨p,q,hA,hV,rfl,hfz,hnd⟩:=hW
 rw[hvars] at hV
 obtain⟨rfl,rfl⟩:=trodVars_none hV
 obtain⟨xs,hxl,hdl,hxt,hxb,hxr⟩:=b3G henv hB hbk f.params.toList as args.toList ds p hct hA (λj t v hj hv=>hval j t v (by simpa using hj) (by simpa using hv)) hbd
 obtain⟨n,sg,ow,hp⟩:=hlaw xs hxt (g6V hxb hM)
 refine(b3J hF hk hgl (by simpa using hxl) (λi v x hv hx=>hxr i v x (by simpa using hv) hx) hp).mono λe W' ⟨he,hb⟩=>⟨_,he,?_⟩
 have hlt:∀ x∈p,x.block < W.heap.size:=λx hx=>hW'.lt x (by simp [hx])
 have hfn':s.fn H (ds++[])={ results:=[.lit (.bool true)],args:=ds }:=by rw[g5C];exact hfn ds hdl
 have hr:∀ (b:Nat) (sp:Nat->Bool) (hd:Bool),DataW.TrodAll enc P W' b sp hd f.resultTypes.toList ((Value.bool true).resultList f.resultTypes.size) (s.fn H (ds++[])).results []:=by
  intro b sp hd
  rw[hfn',hres]
  exact trodAll_mk1 (shut_bool ht0 true)
 have ha:∀ sp:Nat->Bool,(∀ x∈p,sp x.block=true)->DataW.TrodAll enc P W' 0 sp true f.params.toList args.toList (s.fn H (ds++[])).args p:=by
  intro sp hsp
  rw[hfn']
  exact b3H hlo hb _ _ _ _ hread hA hlt hsp
 have hv:∀ sp:Nat->Bool,DataW.TrodVars enc P W' sp s.vars (s.fn H (ds++[])).vars []:=by
  intro sp
  rw[hfn',hvars]
  rfl
 have hold:∀ x∈p,(λb=>decide (b < W.heap.size)) x.block=true:=λx hx=>by simpa using hlt x hx
 refine⟨ds,[],p++[],[],p,[],hW',hr _ _ _,ha _ hold,hv _,World.keptBut_mono (λx hx=>⟨hx,by simpa using hx⟩) (hb.frame (·∈p++[])),λ_=>?_⟩
 refine⟨ok_one hres rfl (okWide_bool_mk ht0 true),_,_,([]++p)++[],⟨[]++p,[],trodAll_append (ha _ (λ_ _=>rfl)) (hr _ _ _),hv _,rfl,?_,?_⟩,?_⟩
 ·intro b off hin
  have hin':MemPlace.cell b off∈p:=by simpa using hin
  rw[hb.frozen (hlt _ hin')]
  exact hfz b off (by simpa using hin')
 ·intro h
  simpa using hnd h
 ·intro x hx _
  simpa using hx
end Go.Pi
