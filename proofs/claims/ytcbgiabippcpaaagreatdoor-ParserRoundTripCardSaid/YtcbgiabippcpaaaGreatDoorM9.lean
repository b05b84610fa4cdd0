/- The parser's small functions. -/
import Derived.Test.YtcbgiabippcpaaaGreatDoorM5
import Derived.Test.YtcbgiabippcpaaaGreatDoorKx43
import Derived.Test.YtcbgiabippcpaaaGreatDoorKx43
import Derived.Test.YtcbgiabippcpaaaGreatDoorKx43
set_option maxRecDepth 10000
set_option linter.unusedVariables false
set_option linter.unusedSimpArgs false
namespace Go.Proofs.YtcbgiabippcpaaaGreatDoor
open Go.Pi Go.Lx Go.Ky
variable {gl:Nat→Option (List T)}
abbrev psC (st:Ps) (a b:Int):List PV:=[.t (.sl false (st.ts.map e3G)),.t (.int .i64 st.err),.t (.int .i64 st.pos),.t (.int .i64 a),.t (.int .i64 b),.t (.bool st.deep),.t (.int .i64 st.dat)]
structure Q (c:Nat) (a b:Int) (sg:Sg) (st:Ps) (sg':Sg):Prop where
 cell:sg'[c]?=some (false,psC st a b)
 fr:Fr c sg sg'
theorem Q.trans {c:Nat} {a b:Int} {s0 s1 s2:Sg} {x y:Ps} (h:Q c a b s0 x s1) (h':Q c a b s1 y s2):Q c a b s0 y s2:=⟨h'.cell,h.fr.trans h'.fr⟩
theorem Q.set {c:Nat} {a b:Int} {sg:Sg} {y:Ps} (hc:c < sg.length):Q c a b sg y (sg.set c (false,psC y a b)):=⟨by rw[g7G hc],(Fr.refl c sg).set _⟩
theorem e4A (l:List Tok) (k:Nat) (hk:k≤l.length):a0S 4 (.t (.sl false (l.map e3G))) (some (.t (.int .i64 (k:Int)))) none none=some (.t (.sl false ((l.drop k).map e3G))):=by
 have h0:(0:Int)≤(k:Int):=by omega
 have hz:a0R 4 ((l.map e3G).drop k)=true:=by
  rw[←List.map_drop]
  cases l.drop k with
  |nil=>rfl
  |cons x r=>rfl
 simp only[a0S,bound,h0,if_true,g6D,elems,g7N,hk]
 rw[List.take_of_length_le (by simp),if_pos ⟨trivial,g8S _,g8S _,hz⟩,List.map_drop]
set_option maxHeartbeats 400000 in
theorem e4B {sg:Sg} {c:Nat} {a b:Int} {st:Ps} (hc:sg[c]?=some (false,psC st a b)) (hne:st.ts≠[]) (t:Nm) {ow:Ow} {K:PV→Sg→Ow→Prop}:XcE F gl 19 [.lp c 0,.t (.str t)] sg ow K ⟨⟩↔K (.t (.bool (atM t st))) sg ow:=by
 refine CallE.iff (XcE.of F19 rfl ?_)
 simp only[c4J]
 obtain⟨ts,err,pos,deep,dat⟩:=st
 match ts,hne with
 |x::r,_ =>
  have hA:atM t ⟨x::r,err,pos,deep,dat⟩=(decide (x.kind≠0)&&decide (x.text=t)):=rfl
  rw[hA]
  by_cases hk:x.kind=0
  ·have hk':((x.kind:Int)=0)=True:=g9P (by omega)
   simp only[wA,seval,reduceCtorEq,reduceIte,hc,e3G,hk']
   simp [hk]
  ·have hk':((x.kind:Int)=0)=False:=g9O (by omega)
   simp only[wA,seval,reduceCtorEq,reduceIte,hc,e3G,hk']
   simp [hk]
set_option maxHeartbeats 400000 in
theorem e4C {sg:Sg} {c:Nat} {a b:Int} {st:Ps} (hc:sg[c]?=some (false,psC st a b)) (hne:st.ts≠[]) (hln:st.ts.length≤1000000) (e:Int) {ow:Ow} {K:PV→Sg→Ow→Prop}:XcE F gl 61 [.lp c 0,.t (.int .i64 e)] sg ow K ⟨⟩↔K (.tup []) (sg.set c (false,psC (d5O e st) a b)) ow:=by
 refine CallE.iff (XcE.of F61 rfl ?_)
 simp only[c6B]
 have hcl:=d5A hc
 have hgs:=fun y=>d4Z (y:=y) hc
 obtain⟨ts,err,pos,deep,dat⟩:=st
 match ts,hne with
 |x::r,_ =>
  have hw:IntKind.wrap .i64 (((r.length+1:Nat):Int) - 1)=((r.length:Nat):Int):=by
   simp only[g7L] at hln
   rw[IntWalk.i64_in _ (by omega)];omega
  have hsl:=e4A (x::r) r.length (by simp)
  simp only[g7T,e3G] at hsl
  by_cases he:err=0
  ·have he':(err=0)=True:=g9P he
   have hF:d5O e ⟨x::r,err,pos,deep,dat⟩=⟨(x::r).drop r.length,e,(x.pos:Int),deep,dat⟩:=by unfold d5O;simp only[he,if_true];rfl
   rw[hF]
   simp only[wA,seval,reduceCtorEq,reduceIte,hc,hgs,e3G,he',g7N,g7L,hw,hsl,g8G]
   try exact⟨rfl,rfl,rfl⟩
  ·have he':(err=0)=False:=g9O he
   have hF:d5O e ⟨x::r,err,pos,deep,dat⟩=⟨(x::r).drop r.length,err,pos,deep,dat⟩:=by unfold d5O;simp only[he,if_false];rfl
   rw[hF]
   simp only[wA,seval,reduceCtorEq,reduceIte,hc,hgs,e3G,he',g7N,g7L,hw,hsl,g8G]
   try exact⟨rfl,rfl,rfl⟩
set_option maxHeartbeats 400000 in
theorem e4D {sg:Sg} {c:Nat} {a b:Int} {st:Ps} (hc:sg[c]?=some (false,psC st a b)) (hne:st.ts≠[]) {ow:Ow}:CallE F gl 59 [.lp c 0] sg ow fun v sg' ow'=>v=.t (.agg (e3G st.hd))∧Q c a b sg (d5P st) sg'∧ow'=ow:=by
 refine XcE.of F59 rfl ?_
 simp only[c5Z]
 have hcl:=d5A hc
 obtain⟨ts,err,pos,deep,dat⟩:=st
 match ts,hne with
 |[x],_ =>
  have hA:d5P ⟨[x],err,pos,deep,dat⟩=⟨[x],err,pos,deep,dat⟩:=rfl
  rw[hA]
  simp only[wA,seval,reduceCtorEq,reduceIte,d5F hcl,hc,e3G]
  exact⟨rfl,by rw[d5F hcl];exact hc,Fr.of (.app _ _)⟩
 |x::y::r,_ =>
  have hA:d5P ⟨x::y::r,err,pos,deep,dat⟩=⟨y::r,err,pos,deep,dat⟩:=rfl
  rw[hA]
  have hsl:=e4A (x::y::r) 1 (by simp)
  have hl:((r.length+1+1:Nat):Int) > 1:=by omega
  simp only[g7T,e3G,g6N,g6O,g6C] at hsl
  simp only[wA,seval,reduceCtorEq,reduceIte,d5F hcl,d5G hcl,hc,e3G,g7N,g7L,hl,hsl,gs0,gsk,ss0,ssk]
  exact⟨rfl,gsc hcl,Fr.setapp _ _ _ _⟩
theorem e4E {sg:Sg} {c:Nat} {a b:Int} {st:Ps} (hc:sg[c]?=some (false,psC st a b)) (hne:st.ts≠[]) (t:Nm) {ow:Ow}:CallE F gl 57 [.lp c 0,.t (.str t)] sg ow fun v sg' ow'=>v=.t (.bool (atM t st))∧Q c a b sg (d5Q t st) sg'∧ow'=ow:=by
 refine XcE.of F57 rfl ?_
 simp only[c5X]
 unfold d5Q
 cases ha:atM t st with
 |false =>
  simp only[wA,seval,reduceCtorEq,reduceIte,e4B hc hne,ha]
  exact⟨hc,Fr.refl _ _⟩
 |true =>
  simp only[wA,seval,reduceCtorEq,reduceIte,e4B hc hne,ha]
  refine CallE.mono (e4D hc hne) fun v sg' ow' h=>?_
  obtain⟨_,h2,h3⟩:=h
  subst h3
  simp only[wA,seval,reduceCtorEq,reduceIte]
  exact h2
theorem e4F {sg:Sg} {c:Nat} {a b:Int} {st:Ps} (hc:sg[c]?=some (false,psC st a b)) (hne:st.ts≠[]) (hln:st.ts.length≤1000000) (t:Nm) {ow:Ow}:CallE F gl 54 [.lp c 0,.t (.str t)] sg ow fun v sg' ow'=>v=.tup []∧Q c a b sg (d5R t st) sg'∧ow'=ow:=by
 refine XcE.of F54 rfl ?_
 simp only[c5U]
 have h1:=e4E (gl:=gl) hc hne t (ow:=ow)
 unfold d5Q at h1
 unfold d5R
 cases ha:atM t st with
 |false =>
  rw[ha] at h1
  simp only[wA,seval,reduceCtorEq,reduceIte]
  refine CallE.mono h1 fun v sg' ow' h=>?_
  obtain⟨h1,h2,h3⟩:=h
  subst h1 h3
  have hc2:=h2.cell
  simp only[wA,seval,reduceCtorEq,reduceIte,e4C hc2 hne hln]
  exact h2.trans (Q.set (d5A hc2))
 |true =>
  rw[ha] at h1
  simp only[wA,seval,reduceCtorEq,reduceIte]
  refine CallE.mono h1 fun v sg' ow' h=>?_
  obtain⟨h1,h2,h3⟩:=h
  subst h1 h3
  simp only[wA,seval,reduceCtorEq,reduceIte]
  exact h2
theorem e4G {st:Ps} (h:st.ts≠[]):∃ r,st.ts=st.hd::r:=by
 unfold Ps.hd
 match st.ts,h with
 |x::r,_=>exact⟨r,rfl⟩
theorem e4H {sg:Sg} {c:Nat} {a b:Int} {st:Ps} (hc:sg[c]?=some (false,psC st a b)) (hne:st.ts≠[]) (hln:st.ts.length≤1000000) {ow:Ow}:CallE F gl 55 [.lp c 0] sg ow fun v sg' ow'=>v=.t (.str (d5S st).1)∧Q c a b sg (d5S st).2 sg'∧ow'=ow:=by
 refine XcE.of F55 rfl ?_
 simp only[c5V]
 obtain⟨r,hr⟩:=e4G hne
 have hc1:=hc
 simp only[psC,hr,g7T] at hc1
 unfold d5S
 by_cases hk:st.hd.kind=1
 ·have hk':((st.hd.kind:Int)=1)=True:=g9P (by omega)
  rw[if_neg (fun h=>h hk)]
  simp only[wA,seval,reduceCtorEq,reduceIte,hc1,e3G,hk']
  refine CallE.mono (e4D hc hne) fun v sg' ow' h=>?_
  obtain⟨h1,h2,h3⟩:=h
  subst h1 h3
  simp only[wA,seval,reduceCtorEq,reduceIte,e3G]
  exact h2
 ·have hk':((st.hd.kind:Int)=1)=False:=g9O (by omega)
  rw[if_pos hk]
  simp only[wA,seval,reduceCtorEq,reduceIte,hc1,e3G,hk',e4C hc hne hln]
  exact Q.set (d5A hc)
theorem e4I {sg:Sg} {c:Nat} {a b:Int} {st:Ps} (hc:sg[c]?=some (false,psC st a b)) (hne:st.ts≠[]) (hln:st.ts.length≤1000000) (lo hi:Nat) {ow:Ow}:CallE F gl 88 [.lp c 0,.t (.int .u64 lo),.t (.int .u64 hi)] sg ow fun v sg' ow'=>v=.t (.int .i64 (d5T lo hi st).1)∧Q c a b sg (d5T lo hi st).2 sg'∧ow'=ow:=by
 refine XcE.of F88 rfl ?_
 simp only[c7E]
 obtain⟨r,hr⟩:=e4G hne
 have hcl:=d5A hc
 have hc1:=hc
 simp only[psC,hr,g7T] at hc1
 have hca:∀ z:Sg,(sg++z)[c]?=some (false,psC st a b):=fun z=>by rw[d5F hcl];exact hc
 unfold d5T
 by_cases hk:st.hd.kind=3
 ·have hk':((st.hd.kind:Int)=3)=True:=g9P (by omega)
  by_cases hlo:st.hd.val < lo
  ·have hlo':((st.hd.val:Int) < (lo:Int))=True:=g9P (by omega)
   rw[if_pos (.inr hlo)]
   simp only[wA,seval,reduceCtorEq,reduceIte,hc1,d5F hcl,e3G,hk',hlo',e4C (hca _) hne hln]
   exact⟨(Q.set (d5A (hca _))).cell,(Fr.of (.app _ _)).trans (Q.set (a:=a) (b:=b) (d5A (hca _))).fr⟩
  ·have hlo':((st.hd.val:Int) < (lo:Int))=False:=g9O (by omega)
   rw[if_neg (fun h=>h.elim (fun h=>h hk) hlo)]
   by_cases hhi:hi < st.hd.val
   ·have hhi':((st.hd.val:Int) > (hi:Int))=True:=g9P (by omega)
    rw[if_pos hhi]
    simp only[wA,seval,reduceCtorEq,reduceIte,hc1,d5F hcl,e3G,hk',hlo',hhi',e4C (hca _) hne hln]
    exact⟨(Q.set (d5A (hca _))).cell,(Fr.of (.app _ _)).trans (Q.set (a:=a) (b:=b) (d5A (hca _))).fr⟩
   ·have hhi':((st.hd.val:Int) > (hi:Int))=False:=g9O (by omega)
    rw[if_neg hhi]
    simp only[wA,seval,reduceCtorEq,reduceIte,hc1,d5F hcl,e3G,hk',hlo',hhi']
    refine CallE.mono (e4D (hca _) hne) fun v sg' ow' h=>?_
    obtain⟨h1,h2,h3⟩:=h
    subst h1 h3
    simp only[wA,seval,reduceCtorEq,reduceIte,e3G]
    exact⟨h2.cell,(Fr.of (.app _ _)).trans h2.fr⟩
 ·have hk':((st.hd.kind:Int)=3)=False:=g9O (by omega)
  rw[if_pos (.inl hk)]
  simp only[wA,seval,reduceCtorEq,reduceIte,hc1,d5F hcl,e3G,hk',e4C (hca _) hne hln]
  exact⟨(Q.set (d5A (hca _))).cell,(Fr.of (.app _ _)).trans (Q.set (a:=a) (b:=b) (d5A (hca _))).fr⟩
theorem e4J {sg:Sg} {c:Nat} {a b:Int} {st:Ps} (hc:sg[c]?=some (false,psC st a b)) (pos:Int) (q:Bool) {ow:Ow}:CallE F gl 33 [.lp c 0,.t (.int .i64 pos),.t (.bool q)] sg ow fun v sg' ow'=>v=.tup []∧Q c a b sg (d5U pos q st) sg'∧ow'=ow:=by
 refine XcE.of F33 rfl ?_
 simp only[c4W]
 have hcl:=d5A hc
 have hgs:=fun y=>d4Z (y:=y) hc
 unfold d5U
 cases q with
 |false =>
  simp only[wA,seval,reduceCtorEq,reduceIte]
  exact⟨hc,Fr.refl _ _⟩
 |true =>
  cases hd:st.deep with
  |true =>
   have hc1:=hc
   simp only[psC,hd] at hc1
   simp only[wA,seval,reduceCtorEq,reduceIte,hc1]
   exact⟨hc,Fr.refl _ _⟩
  |false =>
   have hc1:=hc
   simp only[psC,hd] at hc1
   have hgs:=fun y=>d4Z (y:=y) hc1
   simp only[wA,seval,reduceCtorEq,reduceIte,hc1,hgs,g8G]
   exact Q.set hcl
theorem ok23 {sg:Sg} {c:Nat} {a b:Int} {st:Ps} (hc:sg[c]?=some (false,psC st a b)) (hne:st.ts≠[]) (hln:st.ts.length≤1000000) {ow:Ow}:CallE F gl 23 [.lp c 0] sg ow fun v sg' ow'=>v=.tup []∧Q c a b sg (d6R st) sg'∧ow'=ow:=by
 refine XcE.of F23 rfl ?_
 simp only[c4P]
 obtain⟨r,hr⟩:=e4G hne
 have hc1:=hc
 simp only[psC,hr,g7T] at hc1
 unfold d6R
 by_cases hk:st.hd.kind=0
 ·have hk':((st.hd.kind:Int)=0)=True:=g9P (by omega)
  rw[if_neg (fun h=>h hk)]
  simp only[wA,seval,reduceCtorEq,reduceIte,hc1,e3G,hk']
  exact⟨hc,Fr.refl _ _⟩
 ·have hk':((st.hd.kind:Int)=0)=False:=g9O (by omega)
  rw[if_pos hk]
  simp only[wA,seval,reduceCtorEq,reduceIte,hc1,e3G,hk',e4C hc hne hln]
  exact Q.set (d5A hc)
theorem ok66 (op:Int) (nl:Bool) (l:List Exp) {K:PV→Prop}:XcP F gl 66 [.int .i64 op,.sl nl (d2K l)] K ⟨⟩↔K (.t (.agg (tEx (.mk op 0 [] nl l)))):=by
 refine Ret.iff (Ret.of F66 rfl ?_)
 simp only[c6E]
 simp only[wA,seval,reduceCtorEq,reduceIte]
 try rfl
theorem e4K {sg:Sg} {c:Nat} {a b:Int} {st:Ps} (hc:sg[c]?=some (false,psC st a b)) {ow:Ow} {K:PV→Sg→Ow→Prop}:XcE F gl 24 [.lp c 0] sg ow K ⟨⟩↔K (.tup [.t (.int .i64 (d6S a b st).1),.t (.int .i64 (d6S a b st).2)]) sg ow:=by
 refine CallE.iff (XcE.of F24 rfl ?_)
 simp only[c4Q]
 unfold d6S
 by_cases he:st.err=0
 ·have he':(st.err=0)=True:=g9P he
  rw[if_neg (fun h=>h.1 he)]
  by_cases ha:a=0
  ·have ha':(a=0)=True:=g9P ha
   rw[if_neg (fun h=>h ha)]
   cases hd:st.deep with
   |true =>
    simp only[wA,seval,reduceCtorEq,reduceIte,hc,he',ha',hd,c3N]
   |false =>
    simp only[wA,seval,reduceCtorEq,reduceIte,hc,he',ha',hd,c3N]
  ·have ha':(a=0)=False:=g9O ha
   rw[if_pos ha]
   simp only[wA,seval,reduceCtorEq,reduceIte,hc,he',ha',c3N]
 ·have he':(st.err=0)=False:=g9O he
  by_cases ha:a=0
  ·have ha':(a=0)=True:=g9P ha
   rw[if_pos ⟨he,.inl ha⟩]
   simp only[wA,seval,reduceCtorEq,reduceIte,hc,he',ha',c3N]
  ·have ha':(a=0)=False:=g9O ha
   by_cases hb:st.pos < b
   ·have hb':(st.pos < b)=True:=g9P hb
    rw[if_pos ⟨he,.inr hb⟩]
    simp only[wA,seval,reduceCtorEq,reduceIte,hc,he',ha',hb',c3N]
   ·have hb':(st.pos < b)=False:=g9O hb
    rw[if_neg (fun h=>h.2.elim ha hb),if_pos ha]
    simp only[wA,seval,reduceCtorEq,reduceIte,hc,he',ha',hb',c3N]
end Go.Proofs.YtcbgiabippcpaaaGreatDoor

/- The parser's expressions: what is to be shown. -/
namespace Go.Proofs.YtcbgiabippcpaaaGreatDoor
open Go.Pi Go.Lx Go.Ky
variable {gl:Nat→Option (List T)}
def OwK (ow ow':Ow):Prop:=ow.length≤ow'.length∧∀ j,j < ow.length→ow'[j]?=ow[j]?
theorem OwK.refl {ow:Ow}:OwK ow ow:=⟨g8S _,fun _ _=>rfl⟩
theorem OwK.trans {x y z:Ow} (h:OwK x y) (h':OwK y z):OwK x z:=⟨g8T h.1 h'.1,fun j hj=>by rw[h'.2 j (g8U hj h.1),h.2 j hj]⟩
def Xk (x:PV) (e:Exp):Prop:=x=.lit (d2K e.args)∨∃ k,x=.own k 4 (d2K e.args)
theorem Xk.al {x:PV} {e:Exp} (h:Xk x e):allT [x]=none∧Go.Pi.one x=true:=by
 rcases h with rfl|⟨k,rfl⟩ <;> exact⟨rfl,rfl⟩
abbrev eK (e:Exp) (x:PV):List PV:=[.t (.int .i64 e.op),.t (.int .u64 e.val),.t (.str e.name),x]
abbrev eT (e:Exp):List PV:=[.t (.int .i64 e.op),.t (.int .u64 e.val),.t (.str e.name),.t (.sl e.nl (d2K e.args))]
def Ev (v:PV) (e:Exp):Prop:=v=.t (.agg [.int .i64 e.op,.int .u64 e.val,.str e.name,.sl e.nl (d2K e.args)])∨∃ k,(Xk k e∧e.nl=false)∧v=.agg (eK e k)
def Ec (cs:List PV) (e:Exp):Prop:=cs=eT e∨∃ k,(Xk k e∧e.nl=false)∧cs=eK e k
theorem Ev.nod (op:Int) (l:List Exp):Ev (.t (.agg [.int .i64 op,.int .u64 0,.str [],.sl l.isEmpty (d2K l)])) (nod op l):=.inl rfl
abbrev z4:List T:=[.int .i64 0,.int .u64 0,.str [],.sl true []]
theorem Ev.cells {v:PV} {e:Exp} (h:Ev v e):∃ x,cellsP v=eK e x∧a0M x=some (.sl e.nl (d2K e.args)):=by
 rcases h with rfl|⟨k,⟨hk,hn⟩,rfl⟩
 ·exact⟨_,rfl,rfl⟩
 ·refine⟨k,rfl,?_⟩
  rw[hn];rcases hk with rfl|⟨_,rfl⟩ <;> rfl
theorem e4L {cs:List PV} {o:Nat} {v x:PV} {e:Exp} {r:List (Nat×Nat×PV)} (h:cellsP v=eK e x) (ho:o+4≤cs.length):fillP cs ((o,4,v)::r)=fillP (setRange cs o (eK e x)) r:=by
 rw[fillP,h,if_pos ⟨rfl,ho⟩]
theorem e4M {x:PV} {e:Exp} (h:a0M x=some (.sl e.nl (d2K e.args))) (r:List PV):(eK e x++r).mapM a0M=(r.mapM a0M).map ([.int .i64 e.op,.int .u64 e.val,.str e.name,.sl e.nl (d2K e.args)]++·):=by
 simp only[g6L,g8F,g7R,h]
 simp only[a0M]
 cases r.mapM a0M <;> rfl
theorem e4N {v:PV} {e:Exp} (h:Ev v e):b6J 4 1 z4 [(0,4,v)]=some (.lit (d2K [e])):=by
 have:d2K [e]=[[.int .i64 e.op,.int .u64 e.val,.str e.name,.sl e.nl (d2K e.args)]]:=by rw[d2K,d2M];rfl
 rw[this]
 obtain⟨x,hx,cx⟩:=h.cells
 unfold b6J
 rw[e4L hx (by decide),fillP]
 show((eK e x++[]).mapM a0M).map _=_
 rw[e4M cx]
 rfl
theorem e4O {v w:PV} {e f:Exp} (h:Ev v e) (h':Ev w f):b6J 4 2 z4 [(0,4,v),(4,4,w)]=some (.lit (d2K [e,f])):=by
 have:d2K [e,f]=[[.int .i64 e.op,.int .u64 e.val,.str e.name,.sl e.nl (d2K e.args)],[.int .i64 f.op,.int .u64 f.val,.str f.name,.sl f.nl (d2K f.args)]]:=by rw[d2K,d2K,d2M,d2M];rfl
 rw[this]
 obtain⟨x,hx,cx⟩:=h.cells
 obtain⟨y,hy,cy⟩:=h'.cells
 unfold b6J
 rw[e4L hx (by decide),e4L hy (g8S 8),fillP]
 show((eK e x++(eK f y++[])).mapM a0M).map _=_
 rw[e4M cx,e4M cy]
 rfl
theorem bsl3 {v w z:PV} {e f g:Exp} (h:Ev v e) (h':Ev w f) (h'':Ev z g):b6J 4 3 z4 [(0,4,v),(4,4,w),(8,4,z)]=some (.lit (d2K [e,f,g])):=by
 have:d2K [e,f,g]=[[.int .i64 e.op,.int .u64 e.val,.str e.name,.sl e.nl (d2K e.args)],[.int .i64 f.op,.int .u64 f.val,.str f.name,.sl f.nl (d2K f.args)],[.int .i64 g.op,.int .u64 g.val,.str g.name,.sl g.nl (d2K g.args)]]:=by rw[d2K,d2K,d2K,d2M,d2M,d2M];rfl
 rw[this]
 obtain⟨x,hx,cx⟩:=h.cells
 obtain⟨y,hy,cy⟩:=h'.cells
 obtain⟨u,hu,cu⟩:=h''.cells
 unfold b6J
 rw[e4L hx (by decide),e4L hy (show 4+4≤12 by decide),e4L hu (g8S 12),fillP]
 show((eK e x++(eK f y++(eK g u++[]))).mapM a0M).map _=_
 rw[e4M cx,e4M cy,e4M cu]
 rfl
def EvR (c:Nat) (a b:Int) (sg:Sg) (ow:Ow) (r:Exp×Ps):PV→Sg→Ow→Prop:=fun v sg' ow'=>Ev v r.1∧Q c a b sg r.2 sg'∧OwK ow ow'
def Lv (k0:Nat) (v:PV) (ow:Ow) (l:List Exp):Prop:=(v=.lit (d2K l))∨∃ k,v=.own k 4 (d2K l)∧ow[k]?=some l.length∧k0≤k
structure Pre (c:Nat) (a b:Int) (st:Ps) (sg:Sg):Prop where
 cell:sg[c]?=some (false,psC st a b)
 wf:WfT st.ts
 ln:st.ts.length≤100000
theorem Pre.lt {c:Nat} {a b:Int} {st:Ps} {sg:Sg} (h:Pre c a b st sg):c < sg.length:=d5A h.cell
theorem Pre.ne {c:Nat} {a b:Int} {st:Ps} {sg:Sg} (h:Pre c a b st sg):st.ts≠[]:=h.wf.ne
theorem Pre.app {c:Nat} {a b:Int} {st:Ps} {sg:Sg} (h:Pre c a b st sg) (z:Sg):Pre c a b st (sg++z):=⟨by rw[d5F h.lt];exact h.cell,h.wf,h.ln⟩
theorem Pre.next {c:Nat} {a b:Int} {st st':Ps} {sg sg' s2:Sg} (h:Pre c a b st sg) (q:Q c a b s2 st' sg') (hs:Suf st st'):Pre c a b st' sg':=⟨q.cell,hs.wf h.wf,g8T hs.le h.ln⟩
structure CAll (gl:Nat→Option (List T)) (n:Nat):Prop where
 ex:∀ c a b st sg ow,Pre c a b st sg→12 * st.ts.length+11≤n→CallE F gl 32 [.lp c 0] sg ow (EvR c a b sg ow (d5W n st))
 bi:∀ (lv:Nat) c a b st sg ow,lv≤5→Pre c a b st sg→12 * st.ts.length+(10 - lv)≤n→CallE F gl 65 [.lp c 0,.t (.int .i64 lv)] sg ow (EvR c a b sg ow (d5X n lv st))
 un:∀ c a b st sg ow,Pre c a b st sg→12 * st.ts.length+4≤n→CallE F gl 89 [.lp c 0] sg ow (EvR c a b sg ow (unM n st))
 pr:∀ c a b st sg ow,Pre c a b st sg→12 * st.ts.length+3≤n→CallE F gl 116 [.lp c 0] sg ow (EvR c a b sg ow (d6A n st))
 ha:∀ c a b st sg ow,Pre c a b st sg→12 * st.ts.length+13≤n→CallE F gl 127 [.lp c 0] sg ow (EvR c a b sg ow (d6C n st))
 ar:∀ c a b st sg ow,Pre c a b st sg→12 * st.ts.length+13≤n→CallE F gl 126 [.lp c 0] sg ow fun v sg' ow'=>((v=.t (.sl true [])∧(d6B n st).1=[])∨((v=.lit (d2K (d6B n st).1)∨∃ k,v=.own k 4 (d2K (d6B n st).1))∧(d6B n st).1≠[]))∧Q c a b sg (d6B n st).2 sg'∧OwK ow ow'
 li:∀ c a b st sg ow,Pre c a b st sg→12 * st.ts.length+12≤n→CallE F gl 128 [.lp c 0] sg ow fun v sg' ow'=>Lv ow.length v ow' (d6D n st).1∧(d6D n st).1≠[]∧Q c a b sg (d6D n st).2 sg'∧OwK ow ow'
theorem e4P {c i:Nat} {sg s:Sg} (h:Fr c sg s) (hi:sg.length≤i) (y:Bool×List PV):Fr c sg (s.set i y):=⟨by rw[g7P];exact h.1,fun j hj hc=>by rw[g7F (by omega)];exact h.2 j hj hc⟩
theorem Q.hi {c:Nat} {a b:Int} {sg s:Sg} {st:Ps} (h:Q c a b sg st s) {i:Nat} (hi:sg.length≤i) (hc:i≠c) (y:Bool×List PV):Q c a b sg st (s.set i y):=⟨by rw[g7F hc];exact h.cell,e4P h.fr hi y⟩
theorem Q.more {c:Nat} {a b:Int} {sg s:Sg} {st:Ps} (h:Q c a b sg st s) (z:Sg):Q c a b sg st (s++z):=⟨by rw[d5F (d5A h.cell)];exact h.cell,h.fr.trans (Fr.of (.app _ _))⟩
theorem Q.from {c:Nat} {a b:Int} {sg s z:Sg} {st:Ps} (h:Q c a b (sg++z) st s):Q c a b sg st s:=⟨h.cell,(Fr.of (.app _ _)).trans h.fr⟩
theorem e4Q {sg:Sg} {y:Bool×List PV}:(sg++[y])[sg.length]?=some y:=g6X
abbrev zC:List PV:=[.t (.int .i64 0),.t (.int .u64 0),.t (.str []),.t (.sl true [])]
theorem nd (op:Int) (nl:Bool) (l:List Exp) {K:PV→Prop}:XcP F gl 66 [.int .i64 op,.sl nl (d2K l)] K ⟨⟩↔K (.t (.agg [.int .i64 op,.int .u64 0,.str [],.sl nl (d2K l)])):=ok66 op nl l
theorem e4R {sg:Sg} {i j:Nat} (h:i≠j) (y:Bool×List PV):(sg.set i y)[j]?=sg[j]?:=g7F h
set_option maxHeartbeats 1000000 in
theorem e4S {n:Nat} (hn:CAll gl n) {c:Nat} {a b:Int} {st:Ps} {sg:Sg} {ow:Ow} (hp:Pre c a b st sg) (hf:12 * st.ts.length+11≤n+1):CallE F gl 32 [.lp c 0] sg ow (EvR c a b sg ow (d5W (n+1) st)):=by
 refine XcE.of F32 rfl ?_
 simp only[c4V]
 have hcl:=hp.lt
 simp only[wA,seval,reduceCtorEq,reduceIte]
 have hp1:=hp.app [(false,zC)]
 refine CallE.mono (hn.bi 0 c a b st _ ow (by omega) hp1 (by omega)) fun v sg1 ow1 h=>?_
 obtain⟨hv,hq,ho⟩:=h
 have rd1:=(d7P n).bi 0 st hp.wf
 have hp2:=hp1.next hq rd1.suf
 have l1:=rd1.suf.le
 have z2:=hq.fr.get (i:=sg.length) e4Q (by omega)
 have g1:=hq.fr.1
 have hq0:=hq.from
 simp only[g7K,g7L,g7O,g8Z] at g1
 have hv0:=hv
 have hEx:d5W (n+1) st=if atM [63] (d5X n 0 st).2 then (nod 20 [(d5X n 0 st).1,(d5W n (d5P (d5X n 0 st).2)).1,(d5W n (d5R [58] (d5W n (d5P (d5X n 0 st).2)).2)).1],(d5W n (d5R [58] (d5W n (d5P (d5X n 0 st).2)).2)).2) else d5X n 0 st:=by rw[d5W]
 rcases hv with rfl|⟨k,hnl,rfl⟩
 all_goals
  first|have hax:=Xk.al hnl.1|have hax:=@c2X
  simp only[wA,seval,reduceCtorEq,reduceIte,hax]
  refine CallE.mono (e4E (hp2.app _).cell hp2.ne [63]) fun v2 sg2 ow2 h2=>?_
  obtain⟨e2,q2,o2⟩:=h2
  subst e2 o2
  have z3:=q2.fr.get (i:=sg1.length) e4Q (by omega)
  have z2b:=q2.fr.get (i:=sg.length) (by rw[d5F (by omega)];exact z2) (by omega)
  have q2':=hq0.trans q2.from
  unfold d5Q at q2 q2'
  cases ha:atM [63] (d5X n 0 st).2 with
  |false =>
   rw[ha] at q2 q2'
   simp only[g5V,if_false] at q2 q2'
   rw[hEx,if_neg (by rw[ha];simp)]
   have gs:=fun y=>d4Z (y:=y) z2b
   simp only[wA,seval,reduceCtorEq,reduceIte,z3,z2b,gs,hax]
   refine⟨?_,q2'.hi (g8S _) (by omega) _,ho⟩
   exact hv0
  |true =>
   rw[ha] at q2 q2'
   simp only[reduceIte] at q2 q2'
   rw[hEx,if_pos ha]
   have l2:=d6X hp2.wf (d6W ha)
   have hp3:=hp2.next q2 (d6V hp2.wf)
   have g2:=q2.fr.1
   simp only[g7K,g7L,g7O,g8Z] at g2
   simp only[wA,seval,reduceCtorEq,reduceIte,hax]
   refine CallE.mono (hn.ex c a b _ sg2 ow2 hp3 (by omega)) fun v3 sg3 ow3 h3=>?_
   obtain⟨hv3,q3,o3⟩:=h3
   have rd3:=(d7P n).ex _ hp3.wf
   have hp4:=hp3.next q3 rd3.suf
   have l3:=rd3.suf.le
   have g3:=q3.fr.1
   have z3c:=q3.fr.get z3 (by omega)
   have z2c:=q3.fr.get z2b (by omega)
   have hv3':=hv3
   rcases hv3 with rfl|⟨k3,hn3,rfl⟩
   all_goals
    first|have hax3:=Xk.al hn3.1|have hax3:=@c2X
    simp only[wA,seval,reduceCtorEq,reduceIte,hax3]
    refine CallE.mono (e4F (hp4.app _).cell hp4.ne (by have:=hp4.ln;omega) [58]) fun v4 sg4 ow4 h4=>?_
    obtain⟨e4,q4,o4⟩:=h4
    subst e4 o4
    have l4:=(d6Y hp4.wf [58]).le
    have hp5:=hp4.next q4 (d6Y hp4.wf [58])
    have z4d:=q4.fr.get (i:=sg3.length) e4Q (by omega)
    have z3d:=q4.fr.get (i:=sg1.length) (by rw[d5F (by omega)];exact z3c) (by omega)
    have z2d:=q4.fr.get (i:=sg.length) (by rw[d5F (by omega)];exact z2c) (by omega)
    simp only[wA,seval,reduceCtorEq,reduceIte,a1I,z3d,z4d,hax,hax3]
    refine CallE.mono (hn.ex c a b _ sg4 _ hp5 (by omega)) fun v5 sg5 ow5 h5=>?_
    obtain⟨hv5,q5,o5⟩:=h5
    have z4e:=q5.fr.get z4d (by omega)
    have z3e:=q5.fr.get z3d (by omega)
    have z2e:=q5.fr.get z2d (by omega)
    have hb:=bsl3 hv0 hv3' hv5
    have gs:=fun y=>d4Z (y:=y) z2e
    have gn1:=fun y=>e4R (sg:=sg5) (show sg.length≠sg1.length by omega) y
    have gn2:=fun y=>e4R (sg:=sg5) (show sg.length≠sg3.length by omega) y
    simp only[wA,seval,reduceCtorEq,reduceIte,d5L,d5K,d5J,d5I,z3d,z3e,z4d,z4e,z2e,hb,nd,gs,gn1,gn2,hax,hax3]
    refine⟨.inl rfl,?_,((ho.trans o3).trans o5)⟩
    exact(((q2'.trans q3).trans q4.from).trans q5).hi (g8S _) (by omega) _
end Go.Proofs.YtcbgiabippcpaaaGreatDoor

/- The parser's operators. -/
namespace Go.Proofs.YtcbgiabippcpaaaGreatDoor
open Go.Pi Go.Lx Go.Ky
variable {gl:Nat→Option (List T)}
def opE (st:Ps):List (Nm×Int)→Option Int
 |[]=>none
 |(t,o)::r=>if t≠[]∧atM t st=true then some o else opE st r
section
variable {c:Nat} {a b:Int} {st:Ps} {sg0:Sg} {ow:Ow} {t0 t1 t2 t3:Nm} {o0 o1 o2 o3:Int}
abbrev e4T (t0 t1 t2 t3:Nm) (o0 o1 o2 o3:Int):PV:=.t (.agg [.str t0,.int .i64 o0,.str t1,.int .i64 o1,.str t2,.int .i64 o2,.str t3,.int .i64 o3])
theorem it4 (X:Ex→S→Prop) {fr:List PV} {sg:Sg} (hq:Q c a b sg0 st sg) (hf:b8Y fr [(0,.lp c 0),(10,e4T t0 t1 t2 t3 o0 o1 o2 o3),(11,.t (.int .i64 4))])
  (k1:∀ fr' sg',Q c a b sg0 st sg'→X (.exit 0) ⟨fr',sg',ow⟩):Xl F gl c7H ⟨fr,sg,ow⟩ X ⟨⟩:=by
 simp only[b9A,b8Z] at hf
 obtain⟨f0,f10,f11,-⟩:=hf
 refine Xl.step ?_
 simp only[c7H]
 simp only[wA,seval,reduceCtorEq,reduceIte,f0,f10,f11]
 exact k1 _ _ hq
theorem it3 (hw:WfT st.ts) (X:Ex→S→Prop) {fr:List PV} {sg:Sg} (hq:Q c a b sg0 st sg) (hf:b8Y fr [(0,.lp c 0),(10,e4T t0 t1 t2 t3 o0 o1 o2 o3),(11,.t (.int .i64 3))])
  (k1:opE st [(t3,o3)]=none→∀ fr' sg',Q c a b sg0 st sg'→X (.exit 0) ⟨fr',sg',ow⟩)
  (k2:∀ o,opE st [(t3,o3)]=some o→∀ fr' sg',Q c a b sg0 (d5P st) sg'→b8Y fr' [(4,.t (.int .i64 o)),(5,.t (.bool true))]→X .ret ⟨fr',sg',ow⟩):Xl F gl c7H ⟨fr,sg,ow⟩ X ⟨⟩:=by
 simp only[b9A,b8Z] at hf
 obtain⟨f0,f10,f11,-⟩:=hf
 refine Xl.step ?_
 simp only[c7H]
 have hcl:=d5A hq.cell
 rw[opE] at k1 k2
 by_cases ht:t3=[]
 ·have ht':(t3=[])=True:=g9P ht
  have hb1:(t3 == [])=true:=by simp [ht]
  rw[if_neg (fun h=>h.1 ht)] at k1 k2
  simp only[wA,seval,reduceCtorEq,reduceIte,f0,f10,f11,ht',hb1]
  exact it4 (t0:=t0) (t1:=t1) (t2:=t2) (t3:=t3) (o0:=o0) (o1:=o1) (o2:=o2) (o3:=o3) X (hq.more _) (by simp only[wQ,Nat.reduceEqDiff,reduceIte,f0,f10];first|done|rfl|exact⟨rfl,rfl⟩) (k1 rfl)
 ·have ht':(t3=[])=False:=g9O ht
  have hb1:(t3 == [])=false:=by simp [ht]
  simp only[wA,seval,reduceCtorEq,reduceIte,f0,f10,f11,ht',hb1]
  refine CallE.mono (e4E (by rw[d5F hcl];exact hq.cell) hw.ne t3) fun v sg' ow' h=>?_
  obtain⟨h1,h2,h3⟩:=h
  subst h1 h3
  unfold d5Q at h2
  have z:=h2.fr.get (i:=sg.length) e4Q (by omega)
  cases ha:atM t3 st with
  |false =>
   rw[ha] at h2
   simp only[g5V,if_false] at h2
   rw[if_neg (fun h=>by rw[ha] at h;exact absurd h.2 (by simp))] at k1 k2
   have h2':Q c a b sg0 st sg':=⟨h2.cell,hq.fr.trans h2.from.fr⟩
   simp only[wA,seval,reduceCtorEq,reduceIte,f0,f10,f11,z]
   exact it4 (t0:=t0) (t1:=t1) (t2:=t2) (t3:=t3) (o0:=o0) (o1:=o1) (o2:=o2) (o3:=o3) X h2' (by simp only[wQ,Nat.reduceEqDiff,reduceIte,f0,f10];first|done|rfl|exact⟨rfl,rfl⟩) (k1 rfl)
  |true =>
   rw[ha] at h2
   simp only[reduceIte] at h2
   rw[if_pos ⟨ht,ha⟩] at k2
   simp only[wA,seval,reduceCtorEq,reduceIte,f0,f10,f11,z]
   exact k2 _ rfl _ _ ⟨h2.cell,hq.fr.trans h2.from.fr⟩ (by simp only[wQ,Nat.reduceEqDiff,reduceIte];first|done|exact⟨rfl,rfl⟩|rfl)
theorem it2 (hw:WfT st.ts) (X:Ex→S→Prop) {fr:List PV} {sg:Sg} (hq:Q c a b sg0 st sg) (hf:b8Y fr [(0,.lp c 0),(10,e4T t0 t1 t2 t3 o0 o1 o2 o3),(11,.t (.int .i64 2))])
  (k1:opE st [(t2,o2),(t3,o3)]=none→∀ fr' sg',Q c a b sg0 st sg'→X (.exit 0) ⟨fr',sg',ow⟩)
  (k2:∀ o,opE st [(t2,o2),(t3,o3)]=some o→∀ fr' sg',Q c a b sg0 (d5P st) sg'→b8Y fr' [(4,.t (.int .i64 o)),(5,.t (.bool true))]→X .ret ⟨fr',sg',ow⟩):Xl F gl c7H ⟨fr,sg,ow⟩ X ⟨⟩:=by
 simp only[b9A,b8Z] at hf
 obtain⟨f0,f10,f11,-⟩:=hf
 refine Xl.step ?_
 simp only[c7H]
 have hcl:=d5A hq.cell
 rw[opE] at k1 k2
 by_cases ht:t2=[]
 ·have ht':(t2=[])=True:=g9P ht
  have hb1:(t2 == [])=true:=by simp [ht]
  rw[if_neg (fun h=>h.1 ht)] at k1 k2
  simp only[wA,seval,reduceCtorEq,reduceIte,f0,f10,f11,ht',hb1]
  refine it3 (t0:=t0) (t1:=t1) (t2:=t2) (t3:=t3) (o0:=o0) (o1:=o1) (o2:=o2) (o3:=o3) hw X (hq.more _) (by simp only[wQ,Nat.reduceEqDiff,reduceIte,f0,f10];first|done|rfl|exact⟨rfl,rfl⟩) k1 k2
 ·have ht':(t2=[])=False:=g9O ht
  have hb1:(t2 == [])=false:=by simp [ht]
  simp only[wA,seval,reduceCtorEq,reduceIte,f0,f10,f11,ht',hb1]
  refine CallE.mono (e4E (by rw[d5F hcl];exact hq.cell) hw.ne t2) fun v sg' ow' h=>?_
  obtain⟨h1,h2,h3⟩:=h
  subst h1 h3
  unfold d5Q at h2
  have z:=h2.fr.get (i:=sg.length) e4Q (by omega)
  cases ha:atM t2 st with
  |false =>
   rw[ha] at h2
   simp only[g5V,if_false] at h2
   rw[if_neg (fun h=>by rw[ha] at h;exact absurd h.2 (by simp))] at k1 k2
   have h2':Q c a b sg0 st sg':=⟨h2.cell,hq.fr.trans h2.from.fr⟩
   simp only[wA,seval,reduceCtorEq,reduceIte,f0,f10,f11,z]
   refine it3 (t0:=t0) (t1:=t1) (t2:=t2) (t3:=t3) (o0:=o0) (o1:=o1) (o2:=o2) (o3:=o3) hw X h2' (by simp only[wQ,Nat.reduceEqDiff,reduceIte,f0,f10];first|done|rfl|exact⟨rfl,rfl⟩) k1 k2
  |true =>
   rw[ha] at h2
   simp only[reduceIte] at h2
   rw[if_pos ⟨ht,ha⟩] at k2
   simp only[wA,seval,reduceCtorEq,reduceIte,f0,f10,f11,z]
   exact k2 _ rfl _ _ ⟨h2.cell,hq.fr.trans h2.from.fr⟩ (by simp only[wQ,Nat.reduceEqDiff,reduceIte];first|done|exact⟨rfl,rfl⟩|rfl)
theorem it1 (hw:WfT st.ts) (X:Ex→S→Prop) {fr:List PV} {sg:Sg} (hq:Q c a b sg0 st sg) (hf:b8Y fr [(0,.lp c 0),(10,e4T t0 t1 t2 t3 o0 o1 o2 o3),(11,.t (.int .i64 1))])
  (k1:opE st [(t1,o1),(t2,o2),(t3,o3)]=none→∀ fr' sg',Q c a b sg0 st sg'→X (.exit 0) ⟨fr',sg',ow⟩)
  (k2:∀ o,opE st [(t1,o1),(t2,o2),(t3,o3)]=some o→∀ fr' sg',Q c a b sg0 (d5P st) sg'→b8Y fr' [(4,.t (.int .i64 o)),(5,.t (.bool true))]→X .ret ⟨fr',sg',ow⟩):Xl F gl c7H ⟨fr,sg,ow⟩ X ⟨⟩:=by
 simp only[b9A,b8Z] at hf
 obtain⟨f0,f10,f11,-⟩:=hf
 refine Xl.step ?_
 simp only[c7H]
 have hcl:=d5A hq.cell
 rw[opE] at k1 k2
 by_cases ht:t1=[]
 ·have ht':(t1=[])=True:=g9P ht
  have hb1:(t1 == [])=true:=by simp [ht]
  rw[if_neg (fun h=>h.1 ht)] at k1 k2
  simp only[wA,seval,reduceCtorEq,reduceIte,f0,f10,f11,ht',hb1]
  refine it2 (t0:=t0) (t1:=t1) (t2:=t2) (t3:=t3) (o0:=o0) (o1:=o1) (o2:=o2) (o3:=o3) hw X (hq.more _) (by simp only[wQ,Nat.reduceEqDiff,reduceIte,f0,f10];first|done|rfl|exact⟨rfl,rfl⟩) k1 k2
 ·have ht':(t1=[])=False:=g9O ht
  have hb1:(t1 == [])=false:=by simp [ht]
  simp only[wA,seval,reduceCtorEq,reduceIte,f0,f10,f11,ht',hb1]
  refine CallE.mono (e4E (by rw[d5F hcl];exact hq.cell) hw.ne t1) fun v sg' ow' h=>?_
  obtain⟨h1,h2,h3⟩:=h
  subst h1 h3
  unfold d5Q at h2
  have z:=h2.fr.get (i:=sg.length) e4Q (by omega)
  cases ha:atM t1 st with
  |false =>
   rw[ha] at h2
   simp only[g5V,if_false] at h2
   rw[if_neg (fun h=>by rw[ha] at h;exact absurd h.2 (by simp))] at k1 k2
   have h2':Q c a b sg0 st sg':=⟨h2.cell,hq.fr.trans h2.from.fr⟩
   simp only[wA,seval,reduceCtorEq,reduceIte,f0,f10,f11,z]
   refine it2 (t0:=t0) (t1:=t1) (t2:=t2) (t3:=t3) (o0:=o0) (o1:=o1) (o2:=o2) (o3:=o3) hw X h2' (by simp only[wQ,Nat.reduceEqDiff,reduceIte,f0,f10];first|done|rfl|exact⟨rfl,rfl⟩) k1 k2
  |true =>
   rw[ha] at h2
   simp only[reduceIte] at h2
   rw[if_pos ⟨ht,ha⟩] at k2
   simp only[wA,seval,reduceCtorEq,reduceIte,f0,f10,f11,z]
   exact k2 _ rfl _ _ ⟨h2.cell,hq.fr.trans h2.from.fr⟩ (by simp only[wQ,Nat.reduceEqDiff,reduceIte];first|done|exact⟨rfl,rfl⟩|rfl)
theorem it0 (hw:WfT st.ts) (X:Ex→S→Prop) {fr:List PV} {sg:Sg} (hq:Q c a b sg0 st sg) (hf:b8Y fr [(0,.lp c 0),(10,e4T t0 t1 t2 t3 o0 o1 o2 o3),(11,.t (.int .i64 0))])
  (k1:opE st [(t0,o0),(t1,o1),(t2,o2),(t3,o3)]=none→∀ fr' sg',Q c a b sg0 st sg'→X (.exit 0) ⟨fr',sg',ow⟩)
  (k2:∀ o,opE st [(t0,o0),(t1,o1),(t2,o2),(t3,o3)]=some o→∀ fr' sg',Q c a b sg0 (d5P st) sg'→b8Y fr' [(4,.t (.int .i64 o)),(5,.t (.bool true))]→X .ret ⟨fr',sg',ow⟩):Xl F gl c7H ⟨fr,sg,ow⟩ X ⟨⟩:=by
 simp only[b9A,b8Z] at hf
 obtain⟨f0,f10,f11,-⟩:=hf
 refine Xl.step ?_
 simp only[c7H]
 have hcl:=d5A hq.cell
 rw[opE] at k1 k2
 by_cases ht:t0=[]
 ·have ht':(t0=[])=True:=g9P ht
  have hb1:(t0 == [])=true:=by simp [ht]
  rw[if_neg (fun h=>h.1 ht)] at k1 k2
  simp only[wA,seval,reduceCtorEq,reduceIte,f0,f10,f11,ht',hb1]
  refine it1 (t0:=t0) (t1:=t1) (t2:=t2) (t3:=t3) (o0:=o0) (o1:=o1) (o2:=o2) (o3:=o3) hw X (hq.more _) (by simp only[wQ,Nat.reduceEqDiff,reduceIte,f0,f10];first|done|rfl|exact⟨rfl,rfl⟩) k1 k2
 ·have ht':(t0=[])=False:=g9O ht
  have hb1:(t0 == [])=false:=by simp [ht]
  simp only[wA,seval,reduceCtorEq,reduceIte,f0,f10,f11,ht',hb1]
  refine CallE.mono (e4E (by rw[d5F hcl];exact hq.cell) hw.ne t0) fun v sg' ow' h=>?_
  obtain⟨h1,h2,h3⟩:=h
  subst h1 h3
  unfold d5Q at h2
  have z:=h2.fr.get (i:=sg.length) e4Q (by omega)
  cases ha:atM t0 st with
  |false =>
   rw[ha] at h2
   simp only[g5V,if_false] at h2
   rw[if_neg (fun h=>by rw[ha] at h;exact absurd h.2 (by simp))] at k1 k2
   have h2':Q c a b sg0 st sg':=⟨h2.cell,hq.fr.trans h2.from.fr⟩
   simp only[wA,seval,reduceCtorEq,reduceIte,f0,f10,f11,z]
   refine it1 (t0:=t0) (t1:=t1) (t2:=t2) (t3:=t3) (o0:=o0) (o1:=o1) (o2:=o2) (o3:=o3) hw X h2' (by simp only[wQ,Nat.reduceEqDiff,reduceIte,f0,f10];first|done|rfl|exact⟨rfl,rfl⟩) k1 k2
  |true =>
   rw[ha] at h2
   simp only[reduceIte] at h2
   rw[if_pos ⟨ht,ha⟩] at k2
   simp only[wA,seval,reduceCtorEq,reduceIte,f0,f10,f11,z]
   exact k2 _ rfl _ _ ⟨h2.cell,hq.fr.trans h2.from.fr⟩ (by simp only[wQ,Nat.reduceEqDiff,reduceIte];first|done|exact⟨rfl,rfl⟩|rfl)
end
theorem ok90 (hg:GlOk gl) {sg:Sg} {c:Nat} {a b:Int} {st:Ps} (hc:sg[c]?=some (false,psC st a b)) (hw:WfT st.ts) (lv:Nat) (hlv:lv≤4) {ow:Ow} :
  CallE F gl 90 [.lp c 0,.t (.int .i64 lv)] sg ow fun v sg' ow'=>v=.tup [.t (.int .i64 ((opL lv st).getD 0)),.t (.bool (opL lv st).isSome)]∧Q c a b sg (if (opL lv st).isSome then d5P st else st) sg'∧ow'=ow:=by
 refine XcE.of F90 rfl ?_
 simp only[c7I]
 have hg3:=hg.g3
 unfold e3D at hg3
 have go:∀ {l l':List (Nm×Int)},opE st l=d5V st l'→opE st l=d5V st l':=fun h=>h
 match lv,hlv with
 |0,_ =>
  have hrow:opL 0 st=opE st [([111,114],19),([],0),([],0),([],0)]:=by
   unfold opL
   simp [ops,d5V,opE]
  rw[hrow]
  simp only[wA,seval,reduceCtorEq,reduceIte,hg3,g6C]
  refine it0 hw _ ⟨hc,Fr.refl _ _⟩ (by simp only[wQ,Nat.reduceEqDiff,reduceIte];first|done|exact⟨rfl,rfl⟩|rfl) ?_ ?_
  ·intro h fr' sg' hq
   rw[h]
   simp only[wA,seval,reduceCtorEq,reduceIte,c3N]
   simpa using hq
  ·intro o h fr' sg' hq hf
   simp only[b9A,b8Z] at hf
   obtain⟨f4,f5,-⟩:=hf
   rw[h]
   simp only[wA,seval,reduceCtorEq,reduceIte,f4,f5,c3N]
   simpa using hq
 |1,_ =>
  have hrow:opL 1 st=opE st [([97,110,100],18),([],0),([],0),([],0)]:=by
   unfold opL
   simp [ops,d5V,opE]
  rw[hrow]
  simp only[wA,seval,reduceCtorEq,reduceIte,hg3,g6C]
  refine it0 hw _ ⟨hc,Fr.refl _ _⟩ (by simp only[wQ,Nat.reduceEqDiff,reduceIte];first|done|exact⟨rfl,rfl⟩|rfl) ?_ ?_
  ·intro h fr' sg' hq
   rw[h]
   simp only[wA,seval,reduceCtorEq,reduceIte,c3N]
   simpa using hq
  ·intro o h fr' sg' hq hf
   simp only[b9A,b8Z] at hf
   obtain⟨f4,f5,-⟩:=hf
   rw[h]
   simp only[wA,seval,reduceCtorEq,reduceIte,f4,f5,c3N]
   simpa using hq
 |2,_ =>
  have hrow:opL 2 st=opE st [([61,61],14),([33,61],15),([60],16),([60,61],17)]:=by
   unfold opL
   simp [ops,d5V,opE]
  rw[hrow]
  simp only[wA,seval,reduceCtorEq,reduceIte,hg3,g6C]
  refine it0 hw _ ⟨hc,Fr.refl _ _⟩ (by simp only[wQ,Nat.reduceEqDiff,reduceIte];first|done|exact⟨rfl,rfl⟩|rfl) ?_ ?_
  ·intro h fr' sg' hq
   rw[h]
   simp only[wA,seval,reduceCtorEq,reduceIte,c3N]
   simpa using hq
  ·intro o h fr' sg' hq hf
   simp only[b9A,b8Z] at hf
   obtain⟨f4,f5,-⟩:=hf
   rw[h]
   simp only[wA,seval,reduceCtorEq,reduceIte,f4,f5,c3N]
   simpa using hq
 |3,_ =>
  have hrow:opL 3 st=opE st [([43],12),([45],13),([],0),([],0)]:=by
   unfold opL
   simp [ops,d5V,opE]
  rw[hrow]
  simp only[wA,seval,reduceCtorEq,reduceIte,hg3,g6C]
  refine it0 hw _ ⟨hc,Fr.refl _ _⟩ (by simp only[wQ,Nat.reduceEqDiff,reduceIte];first|done|exact⟨rfl,rfl⟩|rfl) ?_ ?_
  ·intro h fr' sg' hq
   rw[h]
   simp only[wA,seval,reduceCtorEq,reduceIte,c3N]
   simpa using hq
  ·intro o h fr' sg' hq hf
   simp only[b9A,b8Z] at hf
   obtain⟨f4,f5,-⟩:=hf
   rw[h]
   simp only[wA,seval,reduceCtorEq,reduceIte,f4,f5,c3N]
   simpa using hq
 |4,_ =>
  have hrow:opL 4 st=opE st [([42],11),([],0),([],0),([],0)]:=by
   unfold opL
   simp [ops,d5V,opE]
  rw[hrow]
  simp only[wA,seval,reduceCtorEq,reduceIte,hg3,g6C]
  refine it0 hw _ ⟨hc,Fr.refl _ _⟩ (by simp only[wQ,Nat.reduceEqDiff,reduceIte];first|done|exact⟨rfl,rfl⟩|rfl) ?_ ?_
  ·intro h fr' sg' hq
   rw[h]
   simp only[wA,seval,reduceCtorEq,reduceIte,c3N]
   simpa using hq
  ·intro o h fr' sg' hq hf
   simp only[b9A,b8Z] at hf
   obtain⟨f4,f5,-⟩:=hf
   rw[h]
   simp only[wA,seval,reduceCtorEq,reduceIte,f4,f5,c3N]
   simpa using hq
end Go.Proofs.YtcbgiabippcpaaaGreatDoor

/- The parser: binary expressions. -/
namespace Go.Proofs.YtcbgiabippcpaaaGreatDoor
open Go.Pi Go.Lx Go.Ky
variable {gl:Nat→Option (List T)}
set_option maxHeartbeats 2000000 in
theorem e4U (hg:GlOk gl) {lv:Nat} (hlv:lv≤4) {c i4 i5:Nat} {a b:Int} {sg0:Sg} (hc0:c < sg0.length) (h4:sg0.length≤i4) (h5:sg0.length≤i5) (h45:i4≠i5) (X:Ex→S→Prop) :
  ∀ (m:Nat),(∀ k,k < m→CAll gl k)→∀ (e:Exp) (cs:List PV) (st:Ps) (sg:Sg) (ow:Ow) (fr:List PV),Ec cs e→WfT st.ts→st.ts.length≤100000→Q c a b sg0 st sg→sg[i4]?=some (false,zC)→sg[i5]?=some (false,cs)→12 * st.ts.length+(9 - lv)≤m →
  b8Y fr [(0,.lp c 0),(1,.t (.int .i64 lv)),(4,.lp i4 0),(5,.lp i5 0)] →
  (∀ fr' sg' ow' cs',Ec cs' (d5Y m lv e st).1→Q c a b sg0 (d5Y m lv e st).2 sg'→sg'[i4]?=some (false,cs')→a0A fr' 4=.lp i4 0→OwK ow ow'→X .ret ⟨fr',sg',ow'⟩) →
  Xl F gl c6C ⟨fr,sg,ow⟩ X ⟨⟩:=by
 intro m
 induction m with
 |zero=>intro _ e cs st sg ow fr _ hw _ _ _ _ hf;have:=hw.len;omega
 |succ m ih =>
  intro hall e cs st sg ow fr hcs hw hln hq z4 z5 hf hfr k
  simp only[b9A,b8Z] at hfr
  obtain⟨f0,f1,f4,f5,-⟩:=hfr
  refine Xl.step ?_
  simp only[c6C]
  have hw1:IntKind.wrap .i64 ((lv:Int)+1)=((lv+1:Nat):Int):=by rw[IntWalk.i64_in _ (by omega)];omega
  simp only[wA,seval,reduceCtorEq,reduceIte,f0,f1,f4,f5]
  refine CallE.mono (ok90 hg hq.cell hw lv hlv) fun v sg1 ow1 h=>?_
  obtain⟨e1,q1,o1⟩:=h
  subst e1 o1
  have z4b:=q1.fr.get z4 (by omega)
  have z5b:=q1.fr.get z5 (by omega)
  have gs4:=fun y=>d4Z (y:=y) z4b
  cases ho:opL lv st with
  |none =>
   rw[ho] at q1
   simp only[Option.isSome_none,g5V,if_false] at q1
   have hB:d5Y (m+1) lv e st=(e,st):=by rw[d5Y,ho]
   rw[hB] at k
   have q0:Q c a b sg0 st sg1:=hq.trans q1
   rcases hcs with rfl|⟨kk,hnl,rfl⟩
   ·simp only[wA,seval,reduceCtorEq,reduceIte,f0,f1,f4,f5,ho,z4b,z5b,gs4,Option.getD_none,Option.isSome_none]
    exact k _ _ _ _ (.inl rfl) (q0.hi h4 (by omega) _) (gs4 _) (by simp only[wQ,Nat.reduceEqDiff,reduceIte,f4]) OwK.refl
   ·have hax:=Xk.al hnl.1
    simp only[wA,seval,reduceCtorEq,reduceIte,f0,f1,f4,f5,ho,z4b,z5b,gs4,Option.getD_none,Option.isSome_none,hax]
    exact k _ _ _ _ (.inr ⟨kk,hnl,rfl⟩) (q0.hi h4 (by omega) _) (gs4 _) (by simp only[wQ,Nat.reduceEqDiff,reduceIte,f4]) OwK.refl
  |some o =>
   rw[ho] at q1
   simp only[Option.isSome_some,if_true] at q1
   have q0:Q c a b sg0 (d5P st) sg1:=hq.trans q1
   have l1:=d6X hw (d7M ho)
   have s1:=d6V hw
   have hp1:Pre c a b (d5P st) sg1:=⟨q1.cell,s1.wf hw,by omega⟩
   have hcall:=(hall m (by omega)).bi (lv+1) c a b (d5P st) sg1 ow1 (by omega) hp1 (by omega)
   have rd:=(d7P m).bi (lv+1) (d5P st) hp1.wf
   have l2:=rd.suf.le
   have hB:d5Y (m+1) lv e st=if lv=2 then (nod o [e,(d5X m (lv+1) (d5P st)).1],(d5X m (lv+1) (d5P st)).2) else d5Y m lv (nod o [e,(d5X m (lv+1) (d5P st)).1]) (d5X m (lv+1) (d5P st)).2:=by rw[d5Y,ho]
   rcases hcs with rfl|⟨kk,hnl,rfl⟩
   all_goals
    first|have hax:=Xk.al hnl.1|have hax:=@c2X
    simp only[wA,seval,reduceCtorEq,reduceIte,f0,f1,f4,f5,ho,z4b,z5b,hw1,a1I,g9D,Option.isSome_some,hax]
    refine CallE.mono hcall fun v2 sg2 ow2 h2=>?_
    obtain⟨hv2,q2,o2⟩:=h2
    have z4c:=q2.fr.get z4b (by omega)
    have z5c:=q2.fr.get z5b (by omega)
    have gs4c:=fun y=>d4Z (y:=y) z4c
    have gs5c:=fun y=>d4Z (y:=y) z5c
    have gn:=fun y=>e4R (sg:=sg2) (show i5≠i4 by omega) y
    have q02:Q c a b sg0 (d5X m (lv+1) (d5P st)).2 sg2:=q0.trans q2
    first|have hb:=e4O (e:=e) (v:=.agg (eK e kk)) (.inr ⟨kk,hnl,rfl⟩) hv2|have hb:=e4O (e:=e) (.inl rfl) hv2
    by_cases h2:lv=2
    ·have h2':((lv:Int)=2)=True:=g9P (by omega)
     rw[hB,if_pos h2] at k
     have gs45:=fun y y2=>d4Z (sg:=sg2.set i5 y) (y:=y2) ((gn y).trans z4c)
     simp only[wA,seval,reduceCtorEq,reduceIte,f0,f1,f4,f5,d5L,d5K,d5J,d5I,z4c,z5b,z5c,hb,nd,gs5c,gn,h2',gs45]
     refine k _ _ _ _ (.inl rfl) ((q02.hi h5 (by omega) _).hi h4 (by omega) _) (gs45 _ _) ?_ o2
     simp only[wQ,Nat.reduceEqDiff,reduceIte,f4]
    ·have h2':((lv:Int)=2)=False:=g9O (by omega)
     rw[hB,if_neg h2] at k
     simp only[wA,seval,reduceCtorEq,reduceIte,f0,f1,f4,f5,d5L,d5K,d5J,d5I,z4c,z5b,z5c,hb,nd,gs5c,gn,h2']
     refine ih (fun k hk=>hall k (by omega)) (nod o [e,(d5X m (lv+1) (d5P st)).1]) _ (d5X m (lv+1) (d5P st)).2 _ ow2 _ (.inl rfl) (rd.suf.wf hp1.wf) (by omega) (q02.hi h5 (by omega) _) ((gn _).trans z4c) (gs5c _) (by omega) ?_ ?_
     ·simp only[wQ,Nat.reduceEqDiff,reduceIte,f0,f1,f4,f5]
     intro fr' sg' ow' cs' a1 a2 a3 a4 a5
     exact k fr' sg' ow' cs' a1 a2 a3 a4 (o2.trans a5)
set_option maxHeartbeats 1000000 in
theorem e4V (hg:GlOk gl) {n:Nat} (hall:∀ k,k≤n→CAll gl k) {lv:Nat} (hlv:lv≤5) {c:Nat} {a b:Int} {st:Ps} {sg:Sg} {ow:Ow} (hp:Pre c a b st sg) (hf:12 * st.ts.length+(10 - lv)≤n+1):CallE F gl 65 [.lp c 0,.t (.int .i64 lv)] sg ow (EvR c a b sg ow (d5X (n+1) lv st)):=by
 refine XcE.of F65 rfl ?_
 simp only[c6D]
 have hcl:=hp.lt
 have hp1:=hp.app [(false,zC)]
 by_cases h5:lv=5
 ·have h5':((lv:Int)=5)=True:=g9P (by omega)
  simp only[wA,seval,reduceCtorEq,reduceIte,h5']
  refine CallE.mono ((hall n (g8S _)).un c a b st _ ow hp1 (by omega)) fun v sg1 ow1 h=>?_
  obtain⟨hv,hq,ho⟩:=h
  have z2:=hq.fr.get (i:=sg.length) e4Q (by omega)
  have gs:=fun y=>d4Z (y:=y) z2
  have hB:d5X (n+1) lv st=unM n st:=by rw[d5X,if_pos h5]
  rw[hB]
  have hv0:=hv
  rcases hv with rfl|⟨k,hnl,rfl⟩
  all_goals
   first|have hax:=Xk.al hnl.1|have hax:=@c2X
   simp only[wA,seval,reduceCtorEq,reduceIte,z2,gs,hax]
   exact⟨hv0,hq.from.hi (g8S _) (by omega) _,ho⟩
 ·have h5':((lv:Int)=5)=False:=g9O (by omega)
  have hw1:IntKind.wrap .i64 ((lv:Int)+1)=((lv+1:Nat):Int):=by rw[IntWalk.i64_in _ (by omega)];omega
  simp only[wA,seval,reduceCtorEq,reduceIte,h5',hw1]
  refine CallE.mono ((hall n (g8S _)).bi (lv+1) c a b st _ ow (by omega) hp1 (by omega)) fun v sg1 ow1 h=>?_
  obtain⟨hv,hq,ho⟩:=h
  have rd1:=(d7P n).bi (lv+1) st hp.wf
  have l1:=rd1.suf.le
  have z2:=hq.fr.get (i:=sg.length) e4Q (by omega)
  have g1:=hq.fr.1
  simp only[g7K,g7L,g7O,g8Z] at g1
  have hB:d5X (n+1) lv st=d5Y n lv (d5X n (lv+1) st).1 (d5X n (lv+1) st).2:=by rw[d5X,if_neg h5]
  rw[hB]
  rcases hv with rfl|⟨k,hnl,rfl⟩
  all_goals
   first|have hax:=Xk.al hnl.1|have hax:=@c2X
   simp only[wA,seval,reduceCtorEq,reduceIte,hax]
   refine e4U hg (lv:=lv) (by omega) (i4:=sg.length) (i5:=sg1.length) (sg0:=sg) (a:=a) (b:=b) (c:=c) hcl (g8S _) (by omega) (by omega) _ n (fun k hk=>hall k (by omega)) (d5X n (lv+1) st).1 _ (d5X n (lv+1) st).2 _ ow1 _ ?_ (rd1.suf.wf hp.wf) (by have:=hp.ln;omega) (hq.from.more _) (by rw[d5F (by omega)];exact z2) e4Q (by omega) ?_ ?_
   ·first|exact .inr ⟨k,hnl,rfl⟩|exact .inl rfl
   ·simp only[wQ,Nat.reduceEqDiff,reduceIte]
   ·intro fr' sg' ow' cs' a1 a2 a3 a4 a5
    rcases a1 with rfl|⟨j,hj,rfl⟩
    ·simp only[wA,seval,reduceCtorEq,reduceIte,a3,a4]
     exact⟨.inl rfl,a2,ho.trans a5⟩
    ·have hax:=Xk.al hj.1
     simp only[wA,seval,reduceCtorEq,reduceIte,a3,a4,hax]
     exact⟨.inr ⟨j,hj,rfl⟩,a2,ho.trans a5⟩
end Go.Proofs.YtcbgiabippcpaaaGreatDoor
