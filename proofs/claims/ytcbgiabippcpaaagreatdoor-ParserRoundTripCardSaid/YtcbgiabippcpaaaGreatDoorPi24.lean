/- PI 24: what an argument's reading gives: a tree of its type. Program independent. -/
import Derived.Test.YtcbgiabippcpaaaGreatDoorPi23
import Derived.ChangeArms
import Derived.Lib.LaidTab
set_option linter.unusedSimpArgs false
set_option linter.unusedVariables false
namespace Go.Pi
variable {P:Program} {H:Type} {enc:TypeId×Value→H} {w:World} {sp:Nat→Bool} {held:Bool}
inductive CT where
 |bool
 |int (k:IntKind)
 |str
 |sl (e:List CT)
 |slr (t:Nat)
inductive Wt (env:Nat→List CT) (N:Nat):CT→T→Prop where
 |bool (b:Bool):Wt env N .bool (.bool b)
 |int (k:IntKind) (n:Int) (h1:k.min≤n) (h2:n≤k.max):Wt env N (.int k) (.int k n)
 |str (l:List UInt8) (h:l.length≤N):Wt env N .str (.str l)
 |nsl (c:List CT):Wt env N (.sl c) (.sl true [])
 |sl (c:List CT) (es:List (List T)) (hl:es.length≤N) (hc:∀ e,e∈es→e.length=c.length) (h:∀ e,e∈es→∀ (j:Nat) (y:CT) (x:T),c[j]?=some y→e[j]?=some x→Wt env N y x):Wt env N (.sl c) (.sl false es)
 |nslr (t:Nat):Wt env N (.slr t) (.sl true [])
 |slr (t:Nat) (es:List (List T)) (hl:es.length≤N) (hc:∀ e,e∈es→e.length=(env t).length) (h:∀ e,e∈es→∀ (j:Nat) (y:CT) (x:T),(env t)[j]?=some y→e[j]?=some x→Wt env N y x):Wt env N (.slr t) (.sl false es)
mutual
def tBk:T→Nat
 |.str s=>s.length+1
 |.sl _ es=>b4L es+1
 |.agg cs=>b4M cs
 |_=>1
def b4M:List T→Nat
 |[]=>0
 |x::r=>tBk x+b4M r
def b4L:List (List T)→Nat
 |[]=>0
 |e::r=>b4M e+b4L r
end
theorem b4N (l r:List T):b4M (l++r)=b4M l+b4M r:=by
 induction l with
 |nil=>simp [b4M]
 |cons x l ih=>simp only[g6L,b4M,ih];omega
theorem b4O (l r:List (List T)):b4L (l++r)=b4L l+b4L r:=by
 induction l with
 |nil=>simp [b4L]
 |cons x l ih=>simp only[g6L,b4L,ih];omega
structure BkOk {H:Type} (bk:DataW H→Nat) (bkA:List (DataW H)→Nat):Prop where
 one:∀ d,1≤bk d
 str:∀ l,l.length+1≤bk (.lit (.string l))
 sl:∀ a b,bkA a+1≤bk (.slice a b)
 agg:∀ ds,bkA ds≤bk (.agg ds)
 nil:bkA []=0
 cons:∀ d r,bkA (d::r)=bk d+bkA r
theorem BkOk.append {H:Type} {bk:DataW H→Nat} {bkA:List (DataW H)→Nat} (h:BkOk bk bkA) (l r:List (DataW H)):bkA (l++r)=bkA l+bkA r:=by
 induction l with
 |nil=>simp [h.nil]
 |cons x l ih=>simp only[g6L,h.cons,ih];omega
structure BdOk {H:Type} (P:Program) (N:Nat) (B:TypeId→DataW H→Prop):Prop where
 str:∀ t l,B t (.lit (.string l))→l.length≤N
 sl:∀ t e a b,P.underlying t=some (.slice e)→0 < P.bytesOf e→B t (.slice a b)→a.length≤N∧∀ d,d∈a→B e d
 agg:∀ t fs ds,P.underlying t=some (.struct fs)→B t (.agg ds)→∀ (i:Nat) (f:Field) d,fs[i]?=some f→ds[i]?=some d→B f.type d
 arr:∀ t n e ds,P.underlying t=some (.array n e)→B t (.agg ds)→∀ d,d∈ds→B e d
theorem Wt.noAgg {env:Nat→List CT} {N:Nat} {c:CT} {x:T} (h:Wt env N c x):x.isAgg=false:=by cases h <;> rfl
def ctF (P:Program) (lv:TypeId→Option (List CT)):Nat→List Field→Option (List CT)
 |_,[]=>some []
 |n,f::r=>if f.offset=n then (match lv f.type with
  |some c=>if P.cellsOf f.type=c.length then (ctF P lv (n+c.length) r).map (c++·) else none
  |none=>none) else none
def b4P (P:Program) (rt:List Nat):Nat→TypeId→Option (List CT)
 |0,_=>none
 |n+1,t=>match P.underlying t with
  |some .bool=>some [.bool]
  |some (.int k)=>some [.int k]
  |some .string=>some [.str]
  |some (.slice e)=>if rt.contains e then some [.slr e] else match b4P P rt n e with
   |some c=>if P.cellsOf e=c.length∧0 < c.length∧0 < P.bytesOf e then some [.sl c] else none
   |none=>none
  |some (.struct fs)=>match ctF P (b4P P rt n) 0 fs.toList with
   |some c=>if P.cellsOf t=c.length then some c else none
   |none=>none
  |_=>none
def b4Q (w:World) (b:Nat) (_:Nat):Prop:=b < w.heap.size
def b4R (P:Program) (rt:List Nat) (env:Nat→List CT):Prop:=∀ e,e∈rt→b4P P rt 20 e=some (env e)∧P.cellsOf e=(env e).length∧0 < (env e).length∧0 < P.bytesOf e
def RR (w:World) (env:Nat→List CT) (N:Nat) (cs:List Value) (ct:List CT) (xs:List T):Prop :=
 cs.length=ct.length∧xs.length=ct.length∧∀ (i:Nat) (v:Value) (c:CT) (x:T),cs[i]?=some v→ct[i]?=some c→xs[i]?=some x→TRep (b4Q w) w v x∧Wt env N c x
theorem RR.one {env:Nat→List CT} {N:Nat} {v:Value} {c:CT} {x:T} (h1:TRep (b4Q w) w v x) (h2:Wt env N c x):RR w env N [v] [c] [x] :=
 ⟨rfl,rfl,fun i v' c' x' hv hc hx=>by
  cases i with
  |zero=>simp at hv hc hx;subst hv hc hx;exact⟨h1,h2⟩
  |succ i=>simp at hv⟩
theorem RR.append {env:Nat→List CT} {N:Nat} {cs1 cs2:List Value} {ct1 ct2:List CT} {xs1 xs2:List T} (h1:RR w env N cs1 ct1 xs1) (h2:RR w env N cs2 ct2 xs2):RR w env N (cs1++cs2) (ct1++ct2) (xs1++xs2):=by
 obtain⟨a1,b1,c1⟩:=h1
 obtain⟨a2,b2,c2⟩:=h2
 refine⟨by simp [a1,a2],by simp [b1,b2],fun i v c x hv hc hx=>?_⟩
 rcases g8V i ct1.length with h|h
 ·rw[g6V (by omega)] at hv hc hx
  exact c1 i v c x hv hc hx
 ·rw[g6W (by omega)] at hv hc hx
  rw[a1] at hv
  rw[b1] at hx
  exact c2 _ v c x hv hc hx
theorem b4S {env:Nat→List CT} {N:Nat} {lv:TypeId→Option (List CT)} {rd:TypeId→List Value→Nat→Prop} (ih:∀ t ct,lv t=some ct→∀ cs m,rd t cs m→∃ xs,RR w env N cs ct xs∧b4M xs≤m):∀ (fs:List Field) (ms:List Nat) (n:Nat) (ct:List CT) (cs:List Value),ctF P lv n fs=some ct→ms.length=fs.length →
  (∀ (i:Nat) (f:Field) (m:Nat),fs[i]?=some f→ms[i]?=some m→rd f.type ((cs.drop f.offset).take (P.cellsOf f.type)) m)→cs.length=n+ct.length→∃ xs,RR w env N (cs.drop n) ct xs∧b4M xs≤ms.sum:=by
 intro fs
 induction fs with
 |nil =>
  intro ms n ct cs h _ _ hl
  simp only[ctF,g9G] at h
  subst h
  refine⟨[],⟨?_,rfl,by simp⟩,by simp [b4M]⟩
  simp at hl
  simp [hl]
 |cons f r ih2 =>
  intro ms n ct cs h hml hr hl
  cases ms with
  |nil=>simp at hml
  |cons m ms =>
  simp only[ctF] at h
  split at h
  ·rename_i hoff
   split at h
   ·rename_i c hc
    split at h
    ·rename_i hsz
     simp only[g9E] at h
     obtain⟨ct2,hct2,rfl⟩:=h
     obtain⟨xs1,h1,b1⟩:=ih f.type c hc _ m (hr 0 f m rfl rfl)
     simp only[g7K] at hl
     obtain⟨xs2,h2,b2⟩:=ih2 ms (n+c.length) ct2 cs hct2 (by simpa using hml) (fun i g m hg hm=>hr (i+1) g m (by simpa using hg) (by simpa using hm)) (by omega)
     refine⟨xs1++xs2,?_,by rw[b4N,List.sum_cons];omega⟩
     have:=h1.append h2
     rw[hoff,hsz] at this
     have e:(cs.drop n).take c.length++cs.drop (n+c.length)=cs.drop n:=by
      rw[←g6M]
      exact g8I _ _
     rw[e] at this
     exact this
    ·cases h
   ·cases h
  ·cases h
theorem b4T {a:Addr} {v:Value} (h:w.cell? a=some v):a.block < w.heap.size:=by
 unfold World.cell? at h
 split at h
 ·rename_i c t z hb
  exact(g5P.1 hb).1
 ·cases h
theorem b4U {a:Addr} {v:Value} (h:w.cell? a=some v):a.spot=none:=by
 unfold World.cell? at h
 split at h
 ·split at h
  ·cases h
  ·rename_i hs
   simpa using hs
 ·cases h
theorem b4V {env:Nat→List CT} {N:Nat} {B:TypeId→DataW H→Prop} (hB:BdOk P N B) {bk:DataW H→Nat} {bkA:List (DataW H)→Nat} (hbk:BkOk bk bkA) {t e:TypeId} (ht:P.underlying t=some (.slice e)) {k:CT} {c:List CT} (hsz:P.cellsOf e=c.length∧0 < c.length∧0 < P.bytesOf e) (hk0:Wt env N k (.sl true []))
  (hk:∀ es:List (List T),es.length≤N→(∀ e,e∈es→e.length=c.length)→(∀ e,e∈es→∀ (j:Nat) (y:CT) (x:T),c[j]?=some y→e[j]?=some x→Wt env N y x)→Wt env N k (.sl false es))
  {fuel:Nat} (ih:∀ m,fuel=m+1→∀ (cs:List Value) (x:DataW H×List MemPlace),DataW.trod enc P w 0 sp held m e cs=some x→B e x.1→∃ xs,RR w env N cs c xs∧b4M xs≤bk x.1)
  (cs:List Value) (x:DataW H×List MemPlace) (hd:DataW.trod enc P w 0 sp held fuel t cs=some x) (hb:B t x.1):∃ xs,RR w env N cs [k] xs∧b4M xs≤bk x.1:=by
 rcases DataW.trod_slice ht hd with⟨rfl,_⟩|⟨a,len,cap,elems,rest,m,hm,rfl,hx,_,hlc,hcm,hel,hat,_⟩
 ·exact⟨_,.one .nsl hk0,by simpa [b4M,tBk,b4L] using hbk.one _⟩
 ·subst hx
  obtain⟨hbl,hbe⟩:=hB.sl t e _ _ ht hsz.2.2 hb
  rw[g7N] at hbl
  have hone:∀ i,i < len→∃ (cs':List Value) (xs:List T) (y:DataW H×List MemPlace),elems[i]?=some y∧w.cells? 0 (a.add (i * c.length)) c.length=some cs'∧RR w env N cs' c xs∧b4M xs≤bk y.1:=by
   intro i hi
   have h1:=hat i hi
   rw[hsz.1,g6Z (by omega),g9C] at h1
   obtain⟨cs',h2,h3⟩:=h1
   obtain⟨xs,hx,hb1⟩:=ih m hm cs' _ h3 (hbe _ (List.mem_map.2 ⟨_,List.getElem_mem _,rfl⟩))
   exact⟨cs',xs,_,g6Z (by omega),h2,hx,hb1⟩
  have hex:∀ m,m≤len→∃ (es:List (List T)) ,es.length=m∧b4L es≤bkA ((elems.take m).map (·.1))∧∀ (i:Nat) (xs:List T),es[i]?=some xs→∃ cs',w.cells? 0 (a.add (i * c.length)) c.length=some cs'∧RR w env N cs' c xs:=by
   intro m
   induction m with
   |zero=>intro _;exact⟨[],rfl,by simp [b4L],by simp⟩
   |succ m ihm =>
    intro hm
    obtain⟨es,e1,e3,e2⟩:=ihm (by omega)
    obtain⟨cs',xs,y,hy,h1,h2,hb2⟩:=hone m (by omega)
    refine⟨es++[xs],by simp [e1],?_,fun i ys hi=>?_⟩
    ·rw[List.take_add_one,hy,g7S,hbk.append,b4O]
     simp only[Option.toList_some,g7T,g7U,hbk.cons,hbk.nil,b4L]
     omega
    rcases g8V i es.length with hlt|hge
    ·rw[g6V hlt] at hi
     exact e2 i ys hi
    ·rw[g6W hge] at hi
     have h0:i - es.length=0:=by
      rcases g8O (i - es.length) with h0|h0
      ·exact h0
      ·rw[g7A (by simp;omega)] at hi;cases hi
     rw[h0] at hi
     simp at hi
     subst hi
     have:i=m:=by omega
     subst this
     exact⟨cs',h1,h2⟩
  obtain⟨es,hes,hbs,hall⟩:=hex len (g8S _)
  rw[List.take_of_length_le (by omega)] at hbs
  have hcell:∀ (i j:Nat) (ys:List T) (x:T),es[i]?=some ys→ys[j]?=some x→∃ v,w.cell? ⟨a.block,a.off+(i * c.length+j),none⟩=some v∧b4Q w a.block (a.off+(i * c.length+j))∧TRep (b4Q w) w v x∧(i=0→j=0→a.spot=none):=by
   intro i j ys x hi hj
   obtain⟨cs',h1,h2,h3,h4⟩:=hall i ys hi
   have hjl:j < c.length:=by have:=(g7B.1 hj).1;omega
   unfold World.cells? at h1
   rw[if_pos (g9A _)] at h1
   obtain⟨v,hv1,hv2⟩:=Lib.mapM_at h1 j j (by simp [hjl])
   obtain⟨r1,_⟩:=h4 j v c[j] x hv1 (g6Z hjl) hj
   have hsp:=b4U hv2
   have haddr:(a.add (i * c.length)).add j=⟨a.block,a.off+(i * c.length+j),none⟩:=by
    have e1:((a.add (i * c.length)).add j).block=a.block:=by unfold Addr.add;split <;> split <;> rfl
    have e2:((a.add (i * c.length)).add j).off=a.off+(i * c.length+j):=by unfold Addr.add;split <;> split <;> simp_all <;> omega
    generalize (a.add (i * c.length)).add j=q at e1 e2 hsp
    cases q
    simp_all
   have hlt:=b4T hv2
   rw[haddr] at hv2 hlt
   refine⟨v,hv2,hlt,r1,fun h0 h0'=>?_⟩
   subst h0 h0'
   simpa [Addr.add] using hsp
  refine⟨[.sl false es],.one ?_ ?_,by have:=hbk.sl (elems.map (·.1)) (rest.map (·.1));simp only[b4M,tBk];omega⟩
  ·have hlen:∀ e,e∈es→e.length=c.length:=fun e he=>by
    obtain⟨i,hi⟩:=g8A.1 he
    obtain⟨cs',_,h2⟩:=hall i e hi
    exact h2.2.1
   rw[←hes]
   refine .sl a cap c.length es (fun i j=>(w.cell? ⟨a.block,a.off+(i * c.length+j),none⟩).getD undef) (by omega) (fun hne=>?_) hlen (fun e he x hx=>?_) (fun i j e x hi hj=>?_) (fun i j e x hi hj=>?_)
   ·match es,hne,hcell,hlen with
    |e0::r,_,hcell,hlen =>
     have h0:0 < e0.length:=by rw[hlen e0 (by simp)];exact hsz.2.1
     obtain⟨v,_,_,_,h⟩:=hcell 0 0 e0 e0[0] rfl (g6Z h0)
     exact h rfl rfl
   ·obtain⟨i,hi⟩:=g8A.1 he
    obtain⟨j,hj⟩:=g8A.1 hx
    obtain⟨cs',_,h2,h3,h4⟩:=hall i e hi
    have hjl:j < c.length:=by have:=(g7B.1 hj).1;omega
    exact(h4 j cs'[j] c[j] x (g6Z (by omega)) (g6Z hjl) hj).2.noAgg
   ·obtain⟨v,h1,h2,h3,_⟩:=hcell i j e x hi hj
    exact⟨by rw[h1];rfl,h2⟩
   ·obtain⟨v,h1,h2,h3,_⟩:=hcell i j e x hi hj
    simp only[h1,g9D]
    exact h3
  ·refine hk es (by omega) (fun e he=>?_) fun e he j y x hy hx=>?_
   ·obtain⟨i,hi⟩:=g8A.1 he
    obtain⟨cs',_,h2⟩:=hall i e hi
    exact h2.2.1
   ·obtain⟨i,hi⟩:=g8A.1 he
    obtain⟨cs',_,h2,h3,h4⟩:=hall i e hi
    have hjl:j < c.length:=(g7B.1 hy).1
    exact(h4 j cs'[j] y x (g6Z (by omega)) hy hx).2
theorem b4W {rt:List Nat} {env:Nat→List CT} (henv:b4R P rt env) {N:Nat} {B:TypeId→DataW H→Prop} (hB:BdOk P N B) {bk:DataW H→Nat} {bkA:List (DataW H)→Nat} (hbk:BkOk bk bkA):∀ (fuel n:Nat) (t:TypeId) (ct:List CT),b4P P rt n t=some ct→∀ (cs:List Value) (x:DataW H×List MemPlace),DataW.trod enc P w 0 sp held fuel t cs=some x→B t x.1→∃ xs,RR w env N cs ct xs∧b4M xs≤bk x.1:=by
 intro fuel
 induction fuel with
 |zero=>intro n t ct h cs x hd;simp [DataW.trod] at hd
 |succ fuel ih =>
  intro n t ct h cs x hd hb
  cases n with
  |zero=>simp [b4P] at h
  |succ n =>
  simp only[b4P] at h
  split at h
  ·rename_i ht
   injection h with h
   subst h
   obtain⟨b,rfl,_⟩:=DataW.trod_bool ht hd
   exact⟨_,.one (.bool b) (.bool b),by simpa [b4M,tBk] using hbk.one _⟩
  ·rename_i k ht
   injection h with h
   subst h
   obtain⟨z,rfl,_,hw⟩:=DataW.trod_int ht hd
   simp only[Lit.wf,g5U,g9N] at hw
   exact⟨_,.one (.int k z) (.int k z hw.1 hw.2),by simpa [b4M,tBk] using hbk.one _⟩
  ·rename_i ht
   injection h with h
   subst h
   obtain⟨s,rfl,hx,hs⟩:=DataW.trod_string ht hd
   subst hx
   exact⟨_,.one (.str s) (.str _ (hB.str _ _ hb)),by have:=hbk.str s.data.toList;simp only[b4M,tBk];omega⟩
  ·rename_i e ht
   split at h
   ·rename_i hrt
    injection h with h
    subst h
    obtain⟨q1,q2⟩:=henv e (by simpa using hrt)
    refine b4V hB hbk ht q2 (.nslr e) (fun es h1 h2 h3=>.slr e es h1 h2 h3) (fun m hm cs x h1 h2=>?_) cs x hd hb
    injection hm with hm
    subst hm
    exact ih 20 e _ q1 cs x h1 h2
   split at h
   ·rename_i c hc
    split at h
    ·rename_i hsz
     injection h with h
     subst h
     refine b4V hB hbk ht hsz (.nsl c) (fun es h1 h2 h3=>.sl c es h1 h2 h3) (fun m hm cs x h1 h2=>?_) cs x hd hb
     injection hm with hm
     subst hm
     exact ih n e c hc cs x h1 h2
    ·cases h
   ·cases h
  ·rename_i fs ht
   split at h
   ·rename_i c hc
    split at h
    ·rename_i hsz
     injection h with h
     subst h
     obtain⟨xs,m,hm,rfl,hl,hxl,hat⟩:=DataW.trod_struct ht hd
     injection hm with hm
     subst hm
     have:=b4S (P:=P) (w:=w) (lv:=b4P P rt n) (rd:=fun t cs m=>∃ x,DataW.trod enc P w 0 sp held fuel t cs=some x∧B t x.1∧bk x.1=m) (fun t ct hct cs m ⟨x,hx,hbx,hm⟩=>hm ▸ ih n t ct hct cs x hx hbx) fs.toList (xs.map fun x=>bk x.1) 0 c cs hc (by simpa using hxl) (fun i f m hi hmi=>by
      have hil:i < fs.size:=by have:=(g7B.1 hi).1;simpa using this
      have h1:=hat i f (by simpa using hi)
      rw[g6Z (by omega)] at h1
      rw[g7C,g6Z (by omega),g9F,g9G] at hmi
      exact⟨_,h1,hB.agg t fs _ ht hb i f _ (by simpa using hi) (by rw[g7C,g6Z (by omega)];rfl),hmi⟩) (by omega)
     obtain⟨ys,hy1,hy2⟩:=this
     have hsum:∀ l:List (DataW H×List MemPlace),(l.map fun x=>bk x.1).sum=bkA (l.map (·.1)):=by
      intro l
      induction l with
      |nil=>simp [hbk.nil]
      |cons z l ihl=>simp only[g7T,List.sum_cons,hbk.cons,ihl]
     rw[hsum] at hy2
     exact⟨ys,by simpa using hy1,g8T hy2 (hbk.agg _)⟩
    ·cases h
   ·cases h
  ·cases h
end Go.Pi
