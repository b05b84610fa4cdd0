/- PI 25: from the interpreter's word to the row's 'post'. Program independent. -/
import Derived.Test.YtcbgiabippcpaaaGreatDoorPi24
import Derived.Below
import Derived.Carry
import Derived.RowKit
import Derived.OpenShut
import Derived.ChangeSame
set_option linter.unusedSimpArgs false
set_option linter.unusedVariables false
namespace Go.Pi
open Go.ChangeShapes Go.WideShapes Go.RowKit
variable {P:Program} {H:Type} {enc:TypeId×Value→H} {w:World} {sp:Nat→Bool} {held:Bool}
def b4X (P:Program) (rt:List Nat) (t:TypeId):Option (Bool×List CT) :=
 match b4P P rt 20 t with
 |some ct=>match P.underlying t with
  |some (.struct _)=>some (true,ct)
  |_=>some (false,ct)
 |none=>none
def b4Y (env:Nat→List CT) (N:Nat):Bool×List CT→T→Prop
 |(true,ct),x=>∃ xs,x=.agg xs∧xs.length=ct.length∧∀ (i:Nat) (c:CT) (y:T),ct[i]?=some c→xs[i]?=some y→Wt env N c y
 |(false,ct),x=>∃ c,ct=[c]∧Wt env N c x
def b4Z (env:Nat→List CT) (N:Nat):List (Bool×List CT)→List T→Prop
 |[],[]=>True
 |a::r,x::xs=>b4Y env N a x∧b4Z env N r xs
 |_,_=>False
theorem b5A {rt:List Nat} {env:Nat→List CT} (henv:b4R P rt env) {N:Nat} {B:TypeId→DataW H→Prop} (hB:BdOk P N B) {bk:DataW H→Nat} {bkA:List (DataW H)→Nat} (hbk:BkOk bk bkA) {r:Reach} {base:Nat} {t:TypeId} {v:Value} {d:DataW H} {ps:List MemPlace} {a:Bool×List CT} (hok:Value.okWide P w r base t v) (h:DataW.Trod enc P w 0 sp held t v d ps) (ha:b4X P rt t=some a) (hb:B t d) :
  ∃ x,TRep (b4Q w) w v x∧b4Y env N a x∧tBk x≤bk d:=by
 obtain⟨fuel,h⟩:=h
 unfold b4X at ha
 split at ha
 ·rename_i ct hct
  obtain⟨xs,⟨e1,e2,e3⟩,e4⟩:=b4W henv hB hbk fuel 20 t ct hct _ _ h hb
  have hag:∀ cs:Array Value,v=.agg cs→cs.size=P.cellsOf t→∃ x,TRep (b4Q w) w v x∧b4Y env N (true,ct) x∧tBk x≤bk d:=by
   intro cs hv _
   subst hv
   simp only[Value.cells] at e1 e3
   rw[g5S] at e1
   refine⟨.agg xs,.agg cs xs (by omega) fun i u x hu hx=>?_,⟨xs,rfl,e2,fun i c y hc hy=>?_⟩,e4⟩
   ·have hi:i < ct.length:=by have:=(g7B.1 hx).1;omega
    exact(e3 i u ct[i] x (by simpa using hu) (g6Z hi) hx).1
   ·have hi:i < cs.size:=by have:=(g7B.1 hc).1;omega
    exact(e3 i cs[i] c y (by simp [hi]) hc hy).2
  unfold Value.okWide at hok
  split at ha
  ·rename_i fs ht
   injection ha with ha
   subst ha
   rw[ht] at hok
   obtain⟨cs,hv,hs,_⟩:=hok
   exact hag cs hv hs
  ·rename_i hn1
   injection ha with ha
   subst ha
   have hct1:ct.length=1:=by
    unfold b4P at hct
    split at hct <;> first
     |(injection hct with hct;subst hct;rfl)
     |(rename_i ht;exact absurd ht (hn1 _))
     |(split at hct
       ·injection hct with hct;subst hct;rfl
       split at hct
       ·split at hct
        ·injection hct with hct;subst hct;rfl
        ·cases hct
       ·cases hct)
     |cases hct
   match ct,hct1,xs,e2 with
   |[c],_,[x],_ =>
    have hv:v.cells.toList=[v]:=by
     have hl:v.cells.toList.length=1:=e1
     have hcell:Cell.okWide P w r base t v:=by
      revert hok
      split
      ·rename_i fs ht;exact absurd ht (hn1 fs)
      ·rename_i k e ht
       unfold b4P at hct
       rw[ht] at hct
       cases hct
      ·exact id
     cases v with
     |agg cs =>
      exfalso
      unfold Cell.okWide at hcell
      split at hcell <;> simp_all [Cell.ok]
     |_=>rfl
    rw[hv] at e3
    obtain⟨q1,q2⟩:=e3 0 v c x rfl rfl rfl
    exact⟨x,q1,⟨c,rfl,q2⟩,by simpa [b4M] using e4⟩
 ·cases ha
theorem b5B {rt:List Nat} {env:Nat→List CT} (henv:b4R P rt env) {N:Nat} {B:TypeId→DataW H→Prop} (hB:BdOk P N B) {bk:DataW H→Nat} {bkA:List (DataW H)→Nat} (hbk:BkOk bk bkA) {r:Reach} {base:Nat}:∀ (ts:List TypeId) (as:List (Bool×List CT)) (vs:List Value) (ds:List (DataW H)) (ps:List MemPlace),ts.map (b4X P rt)=as.map some→DataW.TrodAll enc P w 0 sp held ts vs ds ps →
  (∀ (j:Nat) (t:TypeId) (v:Value),ts[j]?=some t→vs[j]?=some v→Value.okWide P w r base t v)→(∀ (j:Nat) (t:TypeId) (d:DataW H),ts[j]?=some t→ds[j]?=some d→B t d)→∃ xs,xs.length=vs.length∧ds.length=as.length∧b4Z env N as xs∧b4M xs≤bkA ds∧∀ (i:Nat) (v:Value) (x:T),vs[i]?=some v→xs[i]?=some x→TRep (b4Q w) w v x:=by
 intro ts
 induction ts with
 |nil =>
  intro as vs ds ps hm h _ _
  obtain⟨rfl,rfl,rfl⟩:=trodAll_nil h
  match as,hm with
  |[],_=>exact⟨[],rfl,rfl,trivial,by simp [b4M],by simp⟩
 |cons t ts ih =>
  intro as vs ds ps hm h hok hbd
  obtain⟨v,vs',d,ds',p,q,rfl,rfl,rfl,h1,h2⟩:=trodAll_cons h
  match as,hm with
  |a::as,hm =>
   simp only[g7T,g6K] at hm
   obtain⟨x,x1,x2,x3⟩:=b5A henv hB hbk (hok 0 t v rfl rfl) h1 hm.1 (hbd 0 t d rfl rfl)
   obtain⟨xs,y1,y0,y2,y4,y3⟩:=ih as vs' ds' q hm.2 h2 (fun j t v hj hv=>hok (j+1) t v (by simpa using hj) (by simpa using hv)) fun j t d hj hd=>hbd (j+1) t d (by simpa using hj) (by simpa using hd)
   refine⟨x::xs,by simp [y1],by simp [y0],⟨x2,y2⟩,by simp only[b4M,hbk.cons];omega,fun i v' x' hv hx=>?_⟩
   cases i with
   |zero=>simp at hv hx;subst hv hx;exact x1
   |succ i=>simp at hv hx;exact y3 i v' x' hv hx
theorem b5C (hl:laidOutB P=true) {W W':World} (hb:Below W.heap.size W W') {sp':Nat→Bool}:∀ (ts:List TypeId) (vs:List Value) (ds:List (DataW H)) (ps:List MemPlace),(∀ t,t∈ts→P.readableRec t=true∧t < P.types.size) →
  DataW.TrodAll enc P W 0 (fun _=>true) true ts vs ds ps→(∀ x∈ps,x.block < W.heap.size)→(∀ x∈ps,sp' x.block=true)→DataW.TrodAll enc P W' 0 sp' true ts vs ds ps:=by
 intro ts
 induction ts with
 |nil =>
  intro vs ds ps _ h _ _
  obtain⟨rfl,rfl,rfl⟩:=trodAll_nil h
  exact trodAll_mk0
 |cons t ts ih =>
  intro vs ds ps hr h hlt hsp
  obtain⟨v,vs',d,ds',p,q,rfl,rfl,rfl,h1,h2⟩:=trodAll_cons h
  have hrt:=hr t (by simp)
  refine trodAll_cons_mk (WideElems.Trod_stays hl hrt.1 hrt.2 h1 (fun x hx=>hb.same (hlt x (by simp [hx]))) fun x hx=>hsp x (by simp [hx])) ?_
  exact ih vs' ds' q (fun t ht=>hr t (by simp [ht])) h2 (fun x hx=>hlt x (by simp [hx])) fun x hx=>hsp x (by simp [hx])
def b5D (gl:Nat→Option (List T)) (W:World):Prop:=∀ (g:Nat) (ts:List T) (j:Nat) (x:T),gl g=some ts→ts[j]?=some x→∃ v,W.cell? ⟨g,j,none⟩=some v∧TRep (b4Q W) W v x∧b4Q W g j
theorem b5E {tb:Tb} {F:Nat→Option Fn} {gl:Nat→Option (List T)} (hF:FnOk P tb F) {k g:Nat} (hk:(k,g)∈tb.fx) {W:World} {args:Array Value} {xs:List T} (hgl:b5D gl W) (hl:xs.length=args.size)
  (hx:∀ (i:Nat) (v:Value) (x:T),args[i]?=some v→xs[i]?=some x→TRep (b4Q W) W v x) {n:Nat} {b:Bool} {sg:Sg} {ow:Ow} (hp:a1Q F gl n k (xs.map .t) [] []=some (.t (.bool b),sg,ow)) :
  Calls P g args W fun e W'=>e=.returned (.bool b)∧Below W.heap.size W W':=by
 have hI:Inv tb.fx gl ⟨[],[],[],b4Q W,W.heap.size⟩ W [] []:=⟨rfl,rfl,by simp,by simp,by simp,rfl,by simp,by simp,by simp,fun b o h=>h,hgl,g8S _⟩
 refine(b4K hF n k g _ [] [] _ sg ow hp hk ⟨[],[],[],b4Q W,W.heap.size⟩ W args hI ⟨by simpa using hl.symm,fun i v x hv hxi=>?_⟩).mono fun e W' ⟨v,G',he,hE,_,hv⟩=>?_
 ·simp only[g7C,g9E] at hxi
  obtain⟨q,hq,rfl⟩:=hxi
  exact .t (hx i v q hv hq)
 ·have:=hv.bool_inv
  subst this
  refine⟨he,hE.os,hE.tape,hE.output,hE.size,fun b hb=>?_⟩
  rcases hE.keep b hb (by simp) (by simp) with h|⟨h,_⟩
  ·exact h
  ·simp only at h;omega
theorem contract {rt:List Nat} {env:Nat→List CT} (henv:b4R P rt env) {N:Nat} {B:TypeId→DataW H→Prop} (hB:BdOk P N B) {bk:DataW H→Nat} {bkA:List (DataW H)→Nat} (hbk:BkOk bk bkA) (M:Nat) {tb:Tb} {F:Nat→Option Fn} {gl:Nat→Option (List T)} (hF:FnOk P tb F) {k g:Nat} (hk:(k,g)∈tb.fx) {f:Func} {s:ChangeSpec} {apart fresh handsOn again:Bool} {as:List (Bool×List CT)} {t0:TypeId}
  (hct:f.params.toList.map (b4X P rt)=as.map some) (hlo:laidOutB P=true) (hread:∀ t,t∈f.params.toList→P.readableRec t=true∧t < P.types.size) (hvars:s.vars=[])
  (hfn:∀ ds:List (DataW H),ds.length=as.length→s.fn H ds={ results:=[.lit (.bool true)],args:=ds }) (hres:f.resultTypes=#[t0]) (ht0:P.underlying t0=some .bool)
  (hlaw:∀ xs,b4Z env N as xs→b4M xs≤M→∃ n sg ow,a1Q F gl n k (xs.map .t) [] []=some (.t (.bool true),sg,ow))
  {W:World} {base:Nat} {args:Array Value} {ds gs:List (DataW H)} {a3J:List MemPlace} (hgl:b5D gl W) (hval:∀ (j:Nat) t v,f.params[j]?=some t→args[j]?=some v→Value.okWide P W .any base t v)
  (hW:DataW.Whole enc P f.params.toList s.vars apart W args.toList ds gs a3J) (hbd:∀ (j:Nat) (t:TypeId) (d:DataW H),f.params.toList[j]?=some t→ds[j]?=some d→B t d) (hM:bkA ds≤M) :
  Calls P g args W fun e W'=>∃ v,e=.returned v∧s.post enc P f apart fresh handsOn again W args v W':=by
 have hW':=hW
 obtain⟨p,q,hA,hV,rfl,hfz,hnd⟩:=hW
 rw[hvars] at hV
 obtain⟨rfl,rfl⟩:=trodVars_none hV
 obtain⟨xs,hxl,hdl,hxt,hxb,hxr⟩:=b5B henv hB hbk f.params.toList as args.toList ds p hct hA (fun j t v hj hv=>hval j t v (by simpa using hj) (by simpa using hv)) hbd
 obtain⟨n,sg,ow,hp⟩:=hlaw xs hxt (g8T hxb hM)
 refine(b5E hF hk hgl (by simpa using hxl) (fun i v x hv hx=>hxr i v x (by simpa using hv) hx) hp).mono fun e W' ⟨he,hb⟩=>⟨_,he,?_⟩
 have hlt:∀ x∈p,x.block < W.heap.size:=fun x hx=>hW'.lt x (by simp [hx])
 have hfn':s.fn H (ds++[])={ results:=[.lit (.bool true)],args:=ds }:=by rw[g6J];exact hfn ds hdl
 have hr:∀ (b:Nat) (sp:Nat→Bool) (hd:Bool),DataW.TrodAll enc P W' b sp hd f.resultTypes.toList ((Value.bool true).resultList f.resultTypes.size) (s.fn H (ds++[])).results []:=by
  intro b sp hd
  rw[hfn',hres]
  exact trodAll_mk1 (shut_bool ht0 true)
 have ha:∀ sp:Nat→Bool,(∀ x∈p,sp x.block=true)→DataW.TrodAll enc P W' 0 sp true f.params.toList args.toList (s.fn H (ds++[])).args p:=by
  intro sp hsp
  rw[hfn']
  exact b5C hlo hb _ _ _ _ hread hA hlt hsp
 have hv:∀ sp:Nat→Bool,DataW.TrodVars enc P W' sp s.vars (s.fn H (ds++[])).vars []:=by
  intro sp
  rw[hfn',hvars]
  rfl
 have hold:∀ x∈p,(fun b=>decide (b < W.heap.size)) x.block=true:=fun x hx=>by simpa using hlt x hx
 refine⟨ds,[],p++[],[],p,[],hW',hr _ _ _,ha _ hold,hv _,World.keptBut_mono (fun x hx=>⟨hx,by simpa using hx⟩) (hb.frame (·∈p++[])),fun _=>?_⟩
 refine⟨ok_one hres rfl (okWide_bool_mk ht0 true),_,_,([]++p)++[],⟨[]++p,[],trodAll_append (ha _ (fun _ _=>rfl)) (hr _ _ _),hv _,rfl,?_,?_⟩,?_⟩
 ·intro b off hin
  have hin':MemPlace.cell b off∈p:=by simpa using hin
  rw[hb.frozen (hlt _ hin')]
  exact hfz b off (by simpa using hin')
 ·intro h
  simpa using hnd h
 ·intro x hx _
  simpa using hx
def Rch (P:Program) {H:Type} (t:TypeId) (d:DataW H):Prop:=∀ n,n∈d.weights P t→n≤reachBytes
theorem b5F {e:TypeId}:∀ {l:List (DataW H)} {d:DataW H} {n:Nat},d∈l→n∈d.weights P e→n∈DataW.weightsAll P e l:=by
 intro l
 induction l with
 |nil=>intro d n h;cases h
 |cons x r ih =>
  intro d n h hn
  simp only[DataW.weightsAll,g7V]
  rcases g7W.1 h with e|e
  ·subst e;exact .inl hn
  ·exact .inr (ih e hn)
theorem b5G:∀ {ts:List TypeId} {l:List (DataW H)} {i:Nat} {t:TypeId} {d:DataW H} {n:Nat},ts[i]?=some t→l[i]?=some d→n∈d.weights P t→n∈DataW.weightsEach P ts l:=by
 intro ts
 induction ts with
 |nil=>intro l i t d n h;simp at h
 |cons t0 ts ih =>
  intro l i t d n h hd hn
  cases l with
  |nil=>simp at hd
  |cons x r =>
   simp only[DataW.weightsEach,g7V]
   cases i with
   |zero=>simp at h hd;subst h hd;exact .inl hn
   |succ i=>simp at h hd;exact .inr (ih h hd hn)
theorem b5H:BdOk (H:=H) P 140737488355328 (Rch P) where
 str t l h:=by
  have:=h l.length (by simp [DataW.weights])
  have e:reachBytes=140737488351232:=rfl
  omega
 sl t e a b ht hpos h:=by
  have hw:∀ n,n∈(a.length+b.length) * P.bytesOf e::(DataW.weightsAll P e a++DataW.weightsAll P e b)→n≤reachBytes:=by
   intro n hn
   exact h n (by simp only[DataW.weights,ht];exact hn)
  refine⟨?_,fun d hd n hn=>hw n (by simp only[g7W,g7V];exact .inr (.inl (b5F hd hn)))⟩
  have h1:=hw _ (g7Y)
  have e1:reachBytes=140737488351232:=rfl
  have h2:a.length+b.length≤(a.length+b.length) * P.bytesOf e:=Nat.le_mul_of_pos_right _ hpos
  omega
 agg t fs ds ht h i f d hf hd n hn:=h n (by
  simp only[DataW.weights,ht]
  exact b5G (i:=i) (by rw[g7C,Array.getElem?_toList,hf];rfl) hd hn)
 arr t k e ds ht h d hd n hn:=h n (by
  simp only[DataW.weights,ht]
  exact b5F hd hn)
theorem b5I {ts:List TypeId} {ds gs:List (DataW H)} {vs:List TypeId} (h:(DataW.weightsEach P (ts++vs) (ds++gs)).all (·≤reachBytes)=true) (j:Nat) (t:TypeId) (d:DataW H) (ht:ts[j]?=some t) (hd:ds[j]?=some d):Rch P t d:=by
 intro n hn
 have h1:=(g7B.1 ht).1
 have h2:=(g7B.1 hd).1
 simpa using g6F.1 h n (b5G (i:=j) (by rw[g6V h1];exact ht) (by rw[g6V h2];exact hd) hn)
end Go.Pi
