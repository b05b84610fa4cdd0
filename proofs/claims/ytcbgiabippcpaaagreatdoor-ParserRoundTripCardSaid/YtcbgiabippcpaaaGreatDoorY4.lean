/- Levels and operators' texts. -/
import Derived.Test.YtcbgiabippcpaaaGreatDoorZ1
import Derived.Test.YtcbgiabippcpaaaGreatDoorZ2
import Derived.Test.YtcbgiabippcpaaaGreatDoorKx68
import Derived.Test.YtcbgiabippcpaaaGreatDoorKx68
import Derived.Test.YtcbgiabippcpaaaGreatDoorM36
set_option maxRecDepth 10000
set_option linter.unusedVariables false
set_option linter.unusedSimpArgs false
namespace Go.Proofs.YtcbgiabippcpaaaGreatDoor
open Go.Pi Go.Lx Go.Ky
variable {gl:Nat→Option (List T)}
theorem g2D (n:Int):n=20∨n=19∨n=18∨n=14∨n=15∨n=16∨n=17∨n=12∨n=13∨n=11∨n=9∨n=10∨n=8 ∨
  (¬n=20∧¬n=19∧¬n=18∧¬n=14∧¬n=15∧¬n=16∧¬n=17∧¬n=12∧¬n=13∧¬n=11∧¬n=9∧¬n=10∧¬n=8):=by omega
theorem ok69 (e:Exp) {K:PV→Prop}:XcP F gl 69 [.agg (tEx e)] K ⟨⟩↔K (.t (.int .i64 ((f3G e.op:Nat):Int))):=by
 refine Ret.iff (Ret.of F69 rfl ?_)
 simp only[c6I]
 rcases g2D e.op with o|o|o|o|o|o|o|o|o|o|o|o|o|o
 case inr.inr.inr.inr.inr.inr.inr.inr.inr.inr.inr.inr.inr =>
  obtain⟨a1,a2,a3,a4,a5,a6,a7,a8,a9,b1,b2,b3,b4⟩:=o
  simp only[wA,seval,reduceCtorEq,reduceIte,d2M,a1,a2,a3,a4,a5,a6,a7,a8,a9,b1,b2,b3,b4]
  have:f3G e.op=9:=by unfold f3G;simp [a1,a2,a3,a4,a5,a6,a7,a8,a9,b1,b2,b3,b4]
  rw[this]
  rfl
 all_goals
  simp only[wA,seval,reduceCtorEq,reduceIte,d2M,o]
  rfl
theorem g2E (n:Int) {K:PV→Prop}:XcP F gl 119 [.int .i64 n] K ⟨⟩↔K (.t (.str (32::((f3H n).text++[32])))):=by
 refine Ret.iff (Ret.of F119 rfl ?_)
 simp only[c8N]
 rcases g2D n with o|o|o|o|o|o|o|o|o|o|o|o|o|o
 case inr.inr.inr.inr.inr.inr.inr.inr.inr.inr.inr.inr.inr =>
  obtain⟨a1,a2,a3,a4,a5,a6,a7,a8,a9,b1,b2,b3,b4⟩:=o
  simp only[wA,seval,reduceCtorEq,reduceIte,a1,a2,a3,a4,a5,a6,a7,a8,a9,b1,b2,b3,b4]
  have:(f3H n).text=[42]:=by unfold f3H;simp [a1,a2,a3,a4,a5,a6,a7,a8,a9,b1,b2,b3,b4,sy]
  rw[this]
  rfl
 all_goals
  subst o
  simp only[wA,seval,reduceCtorEq,reduceIte]
  rfl
theorem g2F:∀ u:Nat,d1M u=Lib.decDigits u:=by
 intro u
 induction u using Nat.strongRecOn with
 |_ u ih =>
  by_cases h:u < 10
  ·rw[d1N h,Lib.decDigits_one h]
  ·rw[d1O h,Lib.decDigits,dif_neg h,ih (u / 10) (by omega)]
end Go.Proofs.YtcbgiabippcpaaaGreatDoor

/- Lists of expressions are written. -/
namespace Go.Proofs.YtcbgiabippcpaaaGreatDoor
open Go.Pi Go.Lx Go.Ky
variable {gl:Nat→Option (List T)}
def WrE (gl:Nat→Option (List T)) (e:Exp):Prop:=∀ (r:Nat),r≤9→∀ (id:Nat) (s:List UInt8) (sg:Sg) (ow:Ow),Bw sg ow id s→s.length+(txP (f3I r (ar e))).length≤1000000 →
 CallE F gl 37 [.lp id 0,.t (.agg (tEx e)),.t (.int .i64 ((r:Nat):Int))] sg ow fun v sg' ow'=>Bw sg' ow' id (s++txP (f3I r (ar e)))∧Fr id sg sg'
def g2G:Nat→List Exp→List UInt8
 |_,[]=>[]
 |i,e::r=>(if 0 < i then [44,32] else [])++(txP (f3I 1 (ar e))++g2G (i+1) r)
theorem g2H (i:Nat) (l:List Exp):g2G (i+1) l=(l.map ar).flatMap fun a=>44::32::txP (f3I 1 a):=by
 induction l generalizing i with
 |nil=>rfl
 |cons e r ih =>
  rw[g2G,if_pos (by omega),ih,g7T,g6Q]
  simp
theorem g2I (l:List Exp):g2G 0 l=txP (f3J ((l.map ar).map (f3I 1))):=by
 cases l with
 |nil=>rfl
 |cons e r =>
  rw[g2G,if_neg (by omega),g2H,g7T,g7T,f3J,f6C,g8F]
  congr 1
  induction r with
  |nil=>rfl
  |cons x r ih=>rw[g7T,g7T,g6Q,g6Q,f6C,←ih];rfl
theorem g2J {id:Nat} {nl:Bool} {l:List Exp} (hl:l.length≤B47) (hw:∀ e,e∈l→WrE gl e) {sg0:Sg} (Q:Ex→S→Prop):∀ (r:List Exp) (i:Nat) (fr:List PV) (sg:Sg) (ow:Ow) (s:List UInt8),l.drop i=r→Fr id sg0 sg→Bw sg ow id s →
  s.length+(g2G i r).length≤1000000→b8Y fr [(0,.lp id 0),(6,.t (.sl nl (d2K l))),(7,.t (.int .i64 l.length)),(8,.t (.int .i64 i))] →
  (∀ fr' sg' ow',Bw sg' ow' id (s++g2G i r)→Fr id sg0 sg'→Q (.exit 0) ⟨fr',sg',ow'⟩) →
  Xl F gl c7Q ⟨fr,sg,ow⟩ Q ⟨⟩:=by
 intro r
 induction r with
 |nil =>
  intro i fr sg ow s hd hg hb hlen hf k
  have hd:=b8T hd
  simp only[b9A,b8Z] at hf
  obtain⟨f0,f6,f7,f8,-⟩:=hf
  refine Xl.step ?_
  simp only[c7Q]
  have c1:¬((i:Int) < (l.length:Int)):=by omega
  simp only[wA,seval,reduceCtorEq,reduceIte,f0,f6,f7,f8,c1]
  exact k _ _ _ (by rw[g2G,g6J];exact hb) hg
 |cons x r ih =>
  intro i fr sg ow s hd hg hb hlen hf k
  obtain⟨hx,hr,hi⟩:=b8S hd
  simp only[b9A,b8Z] at hf
  obtain⟨f0,f6,f7,f8,-⟩:=hf
  refine Xl.step ?_
  simp only[c7Q]
  have c1:(i:Int) < (l.length:Int):=by omega
  have hw1:=d5C hi (show l.length≤281474976710656 by have:B47=140737488355328:=rfl;omega)
  have hc:=hw x (g8B hx) 1 (by omega) id
  simp only[d2M] at hc
  have hid:=hb.lt
  rw[g2G] at hlen k
  simp only[g7K] at hlen
  by_cases c2:(0:Int) < (i:Int)
  ·have hi0:0 < i:=by omega
   rw[if_pos hi0] at hlen k
   simp only[wA,seval,reduceCtorEq,reduceIte,f0,f6,f7,f8,c1,c2,d2O,hx,g9F,d2M,g6D]
   refine CallE.mono (g2C (hb.fr (Grow.app _ _)) (by simp only[g7L,g7O] at hlen ⊢;omega)) ?_
   rintro v sg1 ow1 ⟨hb1,hf1⟩
   have z5:=hf1.get (i:=sg.length) (by simp;rfl) (by omega)
   simp only[wA,seval,reduceCtorEq,reduceIte,f0,f6,f7,f8,z5]
   refine CallE.mono (hc _ _ _ hb1 (by simp only[g7K,g7L,g7O] at hlen ⊢;omega)) ?_
   rintro v2 sg2 ow2 ⟨hb2,hf2⟩
   simp only[wA,seval,reduceCtorEq,reduceIte,f0,f6,f7,f8,hw1]
   refine ih (i+1) _ _ _ _ hr (hg.trans ((Fr.of (Grow.app _ _)).trans (hf1.trans hf2))) hb2 (by simp only[g7K,g7L,g7O] at hlen ⊢;omega) (by simp only[wQ,Nat.reduceEqDiff,reduceIte,f0,f6,f7]) fun fr' sg' ow' h1 h2=>k _ _ _ ?_ h2
   simpa only [g6H] using h1
  ·have hi0:¬0 < i:=by omega
   rw[if_neg hi0] at hlen k
   simp only[wA,seval,reduceCtorEq,reduceIte,f0,f6,f7,f8,c1,c2,d2O,hx,g9F,d2M,g6D]
   refine CallE.mono (hc _ _ _ (hb.fr (Grow.app _ _)) (by simp only[g7O] at hlen;omega)) ?_
   rintro v2 sg2 ow2 ⟨hb2,hf2⟩
   simp only[wA,seval,reduceCtorEq,reduceIte,f0,f6,f7,f8,hw1]
   refine ih (i+1) _ _ _ _ hr (hg.trans ((Fr.of (Grow.app _ _)).trans hf2)) hb2 (by simp only[g7K,g7O] at hlen ⊢;omega) (by simp only[wQ,Nat.reduceEqDiff,reduceIte,f0,f6,f7]) fun fr' sg' ow' h1 h2=>k _ _ _ ?_ h2
   simpa only [g6H,g8F] using h1
theorem g2K {id:Nat} {nl:Bool} {l:List Exp} (hl:l.length≤B47) (hw:∀ e,e∈l→WrE gl e) {s:List UInt8} {sg:Sg} {ow:Ow} (hb:Bw sg ow id s) (hlen:s.length+(txP (f3J ((l.map ar).map (f3I 1)))).length≤1000000) :
  CallE F gl 97 [.lp id 0,.t (.sl nl (d2K l))] sg ow fun v sg' ow'=>Bw sg' ow' id (s++txP (f3J ((l.map ar).map (f3I 1))))∧Fr id sg sg':=by
 rw[←g2I] at hlen ⊢
 refine XcE.of F97 rfl ?_
 simp only[c7R]
 simp only[wA,seval,reduceCtorEq,reduceIte,d2N]
 refine g2J hl hw (sg0:=sg) _ l 0 _ _ _ s rfl (Fr.refl _ _) hb hlen (by simp only[wQ,Nat.reduceEqDiff,reduceIte];exact rfl) ?_
 intro fr' sg' ow' h1 h2
 simp only[wA,seval,reduceCtorEq,reduceIte]
 exact⟨h1,h2⟩
end Go.Proofs.YtcbgiabippcpaaaGreatDoor

/- Expressions with operators are written. -/
namespace Go.Proofs.YtcbgiabippcpaaaGreatDoor
open Go.Pi Go.Lx Go.Ky
variable {gl:Nat→Option (List T)}
def WrB (gl:Nat→Option (List T)) (f:Nat) (e:Exp):Prop:=∀ (id:Nat) (s:List UInt8) (sg:Sg) (ow:Ow),Bw sg ow id s→s.length+(txP (f3L e)).length≤1000000 →
 CallE F gl f [.lp id 0,.t (.agg (tEx e))] sg ow fun v sg' ow'=>Bw sg' ow' id (s++txP (f3L e))∧Fr id sg sg'
theorem g2L {sg:Sg} {ow:Ow} {id:Nat} {s:List UInt8} (h:Bw sg ow id s) (c:Bool×List PV):Bw (sg++[c]) ow id s:=h.fr (Grow.app _ _)
theorem g2M {id:Nat} {sg sg':Sg} {c:Bool×List PV} (h:Fr id (sg++[c]) sg'):Fr id sg sg':=(Fr.of (Grow.app _ _)).trans h
theorem g2N {id:Nat} {sg sg':Sg} {c:Bool×List PV} (h:Fr id (sg++[c]) sg') (hid:id < sg.length):sg'[sg.length]?=some c:=h.get (by simp) (by omega)
theorem g2O (e:Exp) (hw:WrE gl e):∀ (r:Nat),r≤9→∀ (id:Nat) (s:List UInt8) (sg:Sg) (ow:Ow),Bw sg ow id s→s.length+(txP (f3I r (ar e))).length≤1000000 →
  CallE F gl 37 [.lp id 0,.t (.agg [.int .i64 e.op,.int .u64 e.val,.str e.name,.sl e.nl (d2K e.args)]),.t (.int .i64 ((r:Nat):Int))] sg ow fun v sg' ow'=>Bw sg' ow' id (s++txP (f3I r (ar e)))∧Fr id sg sg':=by
 have:=hw
 unfold WrE at this
 simp only[d2M] at this
 exact this
theorem g2P {e:Exp} (o:e.op=8) {a b:Exp} (hab:e.args=[a,b]) (ha:WrE gl a) (hb:WrE gl b):WrB gl 98 e:=by
 intro id s sg ow hk hlen
 have ht:txP (f3L e)=txP (f3I 8 (ar a))++(91::(txP (f3I 1 (ar b))++[93])):=by
  rw[f3O,hab,o]
  simp only[f3K,Int.reduceEq,if_false,if_true,g7T,g7U,a0,a1,g6U,g6T,f6C,f6D,sy]
  rfl
 rw[ht] at hlen ⊢
 simp only[g7K,g7L,g7O] at hlen
 have wa:=g2O a ha 8 (by omega) id
 have wb:=g2O b hb 1 (by omega) id
 have hid:=hk.lt
 refine XcE.of F98 rfl ?_
 simp only[c7S]
 simp only[wA,seval,reduceCtorEq,reduceIte,d2M,o,hab,d2K]
 refine CallE.mono (wa _ _ _ (g2L hk _) (by omega)) ?_
 rintro v1 sg1 ow1 ⟨k1,f1⟩
 have z1:=g2N f1 hid
 simp only[wA,seval,reduceCtorEq,reduceIte,z1]
 refine CallE.mono (g2C k1 (by simp only[g7K,g7L,g7O];omega)) ?_
 rintro v2 sg2 ow2 ⟨k2,f2⟩
 have z2:=g2N (f1.trans f2) hid
 simp only[wA,seval,reduceCtorEq,reduceIte,z2]
 refine CallE.mono (wb _ _ _ k2 (by simp only[g7K,g7L,g7O];omega)) ?_
 rintro v3 sg3 ow3 ⟨k3,f3⟩
 simp only[wA,seval,reduceCtorEq,reduceIte]
 refine CallE.mono (g2C k3 (by simp only[g7K,g7L,g7O];omega)) ?_
 rintro v4 sg4 ow4 ⟨k4,f4⟩
 simp only[wA,seval,reduceCtorEq,reduceIte]
 exact⟨by simpa using k4,g2M (((f1.trans f2).trans f3).trans f4)⟩
theorem g2Q {e:Exp} (o:e.op=9) {a:Exp} (hab:e.args=[a]) (ha:WrE gl a):WrB gl 98 e:=by
 intro id s sg ow hk hlen
 have ht:txP (f3L e)=45::txP (f3I (if a.op=9 then 8 else 7) (ar a)):=by
  rw[f3O,hab,o]
  simp only[f3K,Int.reduceEq,if_false,if_true,g7T,g7U,a0,a1,a2,g6U,g6T,f6C,f6D,f6E,sy,kw]
  rfl
 rw[ht] at hlen ⊢
 simp only[g7K,g7L,g7O] at hlen
 have hid:=hk.lt
 refine XcE.of F98 rfl ?_
 simp only[c7S]
 simp only[wA,seval,reduceCtorEq,reduceIte,d2M,o,hab,d2K]
 refine CallE.mono (g2C (g2L hk _) (by simp only[g7L,g7O];omega)) ?_
 rintro v1 sg1 ow1 ⟨k1,f1⟩
 have z1:=g2N f1 hid
 by_cases c:a.op=9
 ·rw[if_pos c] at hlen ⊢
  have wa:=g2O a ha 8 (by omega) id
  simp only[wA,seval,reduceCtorEq,reduceIte,z1,c]
  simp only[c] at wa
  refine CallE.mono (wa _ _ _ k1 (by simp only[g7K,g7L,g7O];omega)) ?_
  rintro v2 sg2 ow2 ⟨k2,f2⟩
  simp only[wA,seval,reduceCtorEq,reduceIte]
  exact⟨by simpa using k2,g2M (f1.trans f2)⟩
 ·rw[if_neg c] at hlen ⊢
  have wa:=g2O a ha 7 (by omega) id
  simp only[wA,seval,reduceCtorEq,reduceIte,z1,c]
  refine CallE.mono (wa _ _ _ k1 (by simp only[g7K,g7L,g7O];omega)) ?_
  rintro v2 sg2 ow2 ⟨k2,f2⟩
  simp only[wA,seval,reduceCtorEq,reduceIte]
  exact⟨by simpa using k2,g2M (f1.trans f2)⟩
theorem g2R {e:Exp} (o:e.op=10) {a:Exp} (hab:e.args=[a]) (ha:WrE gl a):WrB gl 98 e:=by
 intro id s sg ow hk hlen
 have ht:txP (f3L e)=[110,111,116,32]++txP (f3I 7 (ar a)):=by
  rw[f3O,hab,o]
  simp only[f3K,Int.reduceEq,if_false,if_true,g7T,g7U,a0,a1,a2,g6U,g6T,f6C,f6D,f6E,sy,kw]
  rfl
 rw[ht] at hlen ⊢
 simp only[g7K,g7L,g7O] at hlen
 have wa:=g2O a ha 7 (by omega) id
 have hid:=hk.lt
 refine XcE.of F98 rfl ?_
 simp only[c7S]
 simp only[wA,seval,reduceCtorEq,reduceIte,d2M,o,hab,d2K]
 refine CallE.mono (g2C (g2L hk _) (by simp only[g7L,g7O];omega)) ?_
 rintro v1 sg1 ow1 ⟨k1,f1⟩
 have z1:=g2N f1 hid
 simp only[wA,seval,reduceCtorEq,reduceIte,z1]
 refine CallE.mono (wa _ _ _ k1 (by simp only[g7K,g7L,g7O];omega)) ?_
 rintro v2 sg2 ow2 ⟨k2,f2⟩
 simp only[wA,seval,reduceCtorEq,reduceIte]
 exact⟨by simpa using k2,g2M (f1.trans f2)⟩
theorem g2S {e:Exp} (o:e.op=20) {a b c:Exp} (hab:e.args=[a,b,c]) (ha:WrE gl a) (hb:WrE gl b) (hc:WrE gl c):WrB gl 98 e:=by
 intro id s sg ow hk hlen
 have ht:txP (f3L e)=txP (f3I 2 (ar a))++([32,63,32]++(txP (f3I 1 (ar b))++([32,58,32]++txP (f3I 1 (ar c))))):=by
  rw[f3O,hab,o]
  simp only[f3K,Int.reduceEq,if_false,if_true,g7T,g7U,a0,a1,a2,g6U,g6T,f6C,f6D,f6E,sy,kw]
  rfl
 rw[ht] at hlen ⊢
 simp only[g7K,g7L,g7O] at hlen
 have wa:=g2O a ha 2 (by omega) id
 have wb:=g2O b hb 1 (by omega) id
 have wc:=g2O c hc 1 (by omega) id
 have hid:=hk.lt
 refine XcE.of F98 rfl ?_
 simp only[c7S]
 simp only[wA,seval,reduceCtorEq,reduceIte,d2M,o,hab,d2K]
 refine CallE.mono (wa _ _ _ (g2L hk _) (by omega)) ?_
 rintro v1 sg1 ow1 ⟨k1,f1⟩
 have z1:=g2N f1 hid
 simp only[wA,seval,reduceCtorEq,reduceIte,z1]
 refine CallE.mono (g2C k1 (by simp only[g7K,g7L,g7O];omega)) ?_
 rintro v2 sg2 ow2 ⟨k2,f2⟩
 have z2:=g2N (f1.trans f2) hid
 simp only[wA,seval,reduceCtorEq,reduceIte,z2]
 refine CallE.mono (wb _ _ _ k2 (by simp only[g7K,g7L,g7O];omega)) ?_
 rintro v3 sg3 ow3 ⟨k3,f3⟩
 have z3:=g2N ((f1.trans f2).trans f3) hid
 simp only[wA,seval,reduceCtorEq,reduceIte,z3]
 refine CallE.mono (g2C k3 (by simp only[g7K,g7L,g7O];omega)) ?_
 rintro v4 sg4 ow4 ⟨k4,f4⟩
 have z4:=g2N (((f1.trans f2).trans f3).trans f4) hid
 simp only[wA,seval,reduceCtorEq,reduceIte,z4]
 refine CallE.mono (wc _ _ _ k4 (by simp only[g7K,g7L,g7O];omega)) ?_
 rintro v5 sg5 ow5 ⟨k5,f5⟩
 simp only[wA,seval,reduceCtorEq,reduceIte]
 exact⟨by simpa using k5,g2M ((((f1.trans f2).trans f3).trans f4).trans f5)⟩
theorem g2T (op:Int):f3G op≤9:=by
 unfold f3G
 repeat' split
 all_goals omega
theorem g2U {e:Exp} (o:11≤e.op∧e.op≤19) {a b:Exp} (hab:e.args=[a,b]) (ha:WrE gl a) (hb:WrE gl b):WrB gl 98 e:=by
 intro id s sg ow hk hlen
 have ht:txP (f3L e)=txP (f3I (if f3G e.op=4 then 5 else f3G e.op) (ar a))++((32::((f3H e.op).text++[32]))++txP (f3I (f3G e.op+1) (ar b))):=by
  rw[f3O,hab]
  unfold f3K
  rw[if_neg (by omega),if_neg (by omega),if_neg (by omega),if_neg (by omega),if_neg (by omega),if_neg (by omega),if_neg (by omega),if_neg (by omega),if_neg (by omega),if_neg (by omega),if_neg (by omega)]
  simp only[g7T,g7U,a0,a1,g6U,g6T,f6C,f6D,f6E]
  simp
 rw[ht] at hlen ⊢
 simp only[g7K,g7L,g7O] at hlen
 have n1:¬e.op=8:=by omega
 have n2:¬e.op=9:=by omega
 have n3:¬e.op=10:=by omega
 have n4:¬e.op=20:=by omega
 have hL:f3G e.op≤8:=by
  have:f3G e.op≠9:=by
   unfold f3G
   repeat' split
   all_goals omega
  have:=g2T e.op
  omega
 have hlv:=@ok69 gl e
 simp only[d2M,hab,d2K] at hlv
 have hbt:=@g2E gl e.op
 have hw1:=d5C (i:=f3G e.op) (n:=9) (by omega) (by omega)
 have wb:=g2O b hb (f3G e.op+1) (by omega) id
 have hid:=hk.lt
 refine XcE.of F98 rfl ?_
 simp only[c7S]
 by_cases c:f3G e.op=4
 ·rw[if_pos c] at hlen ⊢
  have wa:=g2O a ha 5 (by omega) id
  have wb:=g2O b hb 5 (by omega) id
  rw[c] at hlen ⊢
  simp only[Nat.reduceAdd] at hlen ⊢
  simp only[c,g6C] at hlv
  have w5:IntKind.i64.wrap 5=5:=by decide
  simp only[wA,seval,reduceCtorEq,reduceIte,d2M,n1,n2,n3,n4,hab,d2K,hlv]
  refine CallE.mono (wa _ _ _ (g2L hk _) (by omega)) ?_
  rintro v1 sg1 ow1 ⟨k1,f1⟩
  have z1:=g2N f1 hid
  simp only[wA,seval,reduceCtorEq,reduceIte,z1,hbt]
  refine CallE.mono (g2C k1 (by simp only[g7K,g7L,g7O];omega)) ?_
  rintro v2 sg2 ow2 ⟨k2,f2⟩
  have z2:=g2N (f1.trans f2) hid
  simp only[wA,seval,reduceCtorEq,reduceIte,z2,hlv,w5]
  refine CallE.mono (wb _ _ _ k2 (by simp only[g7K,g7L,g7O];omega)) ?_
  rintro v3 sg3 ow3 ⟨k3,f3⟩
  simp only[wA,seval,reduceCtorEq,reduceIte]
  exact⟨by simpa using k3,g2M ((f1.trans f2).trans f3)⟩
 ·rw[if_neg c] at hlen ⊢
  have wa:=g2O a ha (f3G e.op) (by omega) id
  have c':¬((f3G e.op:Nat):Int)=4:=by omega
  simp only[wA,seval,reduceCtorEq,reduceIte,d2M,n1,n2,n3,n4,hab,d2K,hlv,c']
  refine CallE.mono (wa _ _ _ (g2L hk _) (by omega)) ?_
  rintro v1 sg1 ow1 ⟨k1,f1⟩
  have z1:=g2N f1 hid
  simp only[wA,seval,reduceCtorEq,reduceIte,z1,hbt]
  refine CallE.mono (g2C k1 (by simp only[g7K,g7L,g7O];omega)) ?_
  rintro v2 sg2 ow2 ⟨k2,f2⟩
  have z2:=g2N (f1.trans f2) hid
  simp only[wA,seval,reduceCtorEq,reduceIte,z2,hlv,hw1]
  refine CallE.mono (wb _ _ _ k2 (by simp only[g7K,g7L,g7O];omega)) ?_
  rintro v3 sg3 ow3 ⟨k3,f3⟩
  simp only[wA,seval,reduceCtorEq,reduceIte]
  exact⟨by simpa using k3,g2M ((f1.trans f2).trans f3)⟩
end Go.Proofs.YtcbgiabippcpaaaGreatDoor

/- Expressions are written. -/
namespace Go.Proofs.YtcbgiabippcpaaaGreatDoor
open Go.Pi Go.Lx Go.Ky
variable {gl:Nat→Option (List T)}
theorem g2V (e:Exp) {f:Nat} (hw:WrB gl f e):∀ (id:Nat) (s:List UInt8) (sg:Sg) (ow:Ow),Bw sg ow id s→s.length+(txP (f3L e)).length≤1000000 →
  CallE F gl f [.lp id 0,.t (.agg [.int .i64 e.op,.int .u64 e.val,.str e.name,.sl e.nl (d2K e.args)])] sg ow fun v sg' ow'=>Bw sg' ow' id (s++txP (f3L e))∧Fr id sg sg':=by
 have:=hw
 unfold WrB at this
 simp only[d2M] at this
 exact this
theorem g2W {e:Exp} (hop:e.op=8∨e.op=9∨e.op=10∨e.op=20∨11≤e.op∧e.op≤19) (hv:exB e=true) (ha:∀ a,a∈e.args→WrE gl a):WrB gl 98 e:=by
 rw[d3V,g5U] at hv
 have hc:=f5O hv.2
 have two:(e.args.length:Int)=2→∃ a b,e.args=[a,b]:=fun h=>by
  match hl:e.args,h with
  |[a,b],_=>exact⟨a,b,rfl⟩
  |[],h=>simp at h
  |[_],h=>simp at h
  |_::_::_::_,h=>simp only[g7L] at h;omega
 have onE:(e.args.length:Int)=1→∃ a,e.args=[a]:=fun h=>by
  match hl:e.args,h with
  |[a],_=>exact⟨a,rfl⟩
  |[],h=>simp at h
  |_::_::_,h=>simp only[g7L] at h;omega
 have tri:(e.args.length:Int)=3→∃ a b c,e.args=[a,b,c]:=fun h=>by
  match hl:e.args,h with
  |[a,b,c],_=>exact⟨a,b,c,rfl⟩
  |[],h=>simp at h
  |[_],h=>simp at h
  |[_,_],h=>simp at h
  |_::_::_::_::_,h=>simp only[g7L] at h;omega
 rcases hop with o|o|o|o|o
 ·obtain⟨a,b,hab⟩:=two (by omega)
  exact g2P o hab (ha a (by simp [hab])) (ha b (by simp [hab]))
 ·obtain⟨a,hab⟩:=onE (by omega)
  exact g2Q o hab (ha a (by simp [hab]))
 ·obtain⟨a,hab⟩:=onE (by omega)
  exact g2R o hab (ha a (by simp [hab]))
 ·obtain⟨a,b,c,hab⟩:=tri (by omega)
  exact g2S o hab (ha a (by simp [hab])) (ha b (by simp [hab])) (ha c (by simp [hab]))
 ·obtain⟨a,b,hab⟩:=two (by omega)
  exact g2U o hab (ha a (by simp [hab])) (ha b (by simp [hab]))
theorem g2X (h2:gl 1=some (p10.map (T.int .u64))) {e:Exp} (hv:exB e=true) (ho:ExpOk e) (ha:∀ a,a∈e.args→WrE gl a):WrB gl 70 e:=by
 have hv0:=hv
 cases ho with|mk _ h1 h2' h3 h4 h5 h6 =>
 rw[d3V,g5U] at hv
 have hc:=f5O hv.2
 obtain⟨u,hu⟩:∃ u:Nat,e.val=(u:Int):=⟨e.val.toNat,by have:=h2'.1;omega⟩
 have hu2:u≤18446744073709551615:=by have:=h2'.2;omega
 intro id s sg ow hk hlen
 have hid:=hk.lt
 have hbe:=f3O e
 refine XcE.of F70 rfl ?_
 simp only[c6J]
 by_cases hop:e.op=8∨e.op=9∨e.op=10∨e.op=20∨11≤e.op∧e.op≤19
 ·have hw:=g2V e (g2W hop hv0 ha) id
  have n1:¬e.op=1:=by omega
  have n2:¬e.op=2:=by omega
  have n3:¬e.op=3:=by omega
  have n4:¬e.op=4:=by omega
  have n5:¬e.op=5:=by omega
  have n6:¬e.op=6:=by omega
  have n7:¬e.op=7:=by omega
  simp only[wA,seval,reduceCtorEq,reduceIte,d2M,n1,n2,n3,n4,n5,n6,n7]
  refine CallE.mono (hw _ _ _ (g2L hk _) hlen) ?_
  rintro v1 sg1 ow1 ⟨k1,f1⟩
  simp only[wA,seval,reduceCtorEq,reduceIte]
  exact⟨k1,g2M f1⟩
 have hop2:e.op=1∨e.op=2∨e.op=3∨e.op=4∨e.op=5∨e.op=6∨e.op=7:=by omega
 clear hc hop
 rcases hop2 with o|o|o|o|o|o|o
 ·have ht:txP (f3L e)=Lib.decDigits u:=by
   rw[hbe,o,hu]
   simp only[f3K,if_true,f6D,nu,g6D,g2F]
   simp [txP]
  rw[ht] at hlen ⊢
  simp only[wA,seval,reduceCtorEq,reduceIte,d2M,o,hu,ok96 h2 hu2]
  refine CallE.mono (g2C (g2L hk _) hlen) ?_
  rintro v1 sg1 ow1 ⟨k1,f1⟩
  simp only[wA,seval,reduceCtorEq,reduceIte]
  exact⟨k1,g2M f1⟩
 ·have ht:txP (f3L e)=e.name:=by
   rw[hbe,o]
   simp only[f3K,Int.reduceEq,if_false,if_true,f6D,nmT]
   simp [txP]
  rw[ht] at hlen ⊢
  simp only[wA,seval,reduceCtorEq,reduceIte,d2M,o]
  refine CallE.mono (g2C (g2L hk _) hlen) ?_
  rintro v1 sg1 ow1 ⟨k1,f1⟩
  simp only[wA,seval,reduceCtorEq,reduceIte]
  exact⟨k1,g2M f1⟩
 ·have ht:txP (f3L e)=[116,114,117,101]:=by
   rw[hbe,o];rfl
  rw[ht] at hlen ⊢
  simp only[wA,seval,reduceCtorEq,reduceIte,d2M,o]
  refine CallE.mono (g2C (g2L hk _) hlen) ?_
  rintro v1 sg1 ow1 ⟨k1,f1⟩
  simp only[wA,seval,reduceCtorEq,reduceIte]
  exact⟨k1,g2M f1⟩
 ·have ht:txP (f3L e)=[102,97,108,115,101]:=by
   rw[hbe,o];rfl
  rw[ht] at hlen ⊢
  simp only[wA,seval,reduceCtorEq,reduceIte,d2M,o]
  refine CallE.mono (g2C (g2L hk _) hlen) ?_
  rintro v1 sg1 ow1 ⟨k1,f1⟩
  simp only[wA,seval,reduceCtorEq,reduceIte]
  exact⟨k1,g2M f1⟩
 ·have ht:txP (f3L e)=(e.name++[40])++(txP (f3J ((e.args.map ar).map (f3I 1)))++[41]):=by
   rw[hbe,o]
   simp only[f3K,Int.reduceEq,if_false,if_true,f6D,f6C,nmT,sy]
   simp [txP,pcT]
  rw[ht] at hlen ⊢
  simp only[g7K,g7L,g7O] at hlen
  have hb:e.name.length+1≤4611686018427387904:=by have:B47=140737488355328:=rfl;omega
  simp only[wA,seval,reduceCtorEq,reduceIte,d2M,o,a0G,hb]
  refine CallE.mono (g2C (g2L hk _) (by simp only[g7K,g7L,g7O];omega)) ?_
  rintro v1 sg1 ow1 ⟨k1,f1⟩
  have z1:=g2N f1 hid
  simp only[wA,seval,reduceCtorEq,reduceIte,z1]
  refine CallE.mono (g2K h4 ha k1 (by simp only[g7K,g7L,g7O];omega)) ?_
  rintro v2 sg2 ow2 ⟨k2,f2⟩
  simp only[wA,seval,reduceCtorEq,reduceIte]
  refine CallE.mono (g2C k2 (by simp only[g7K,g7L,g7O];omega)) ?_
  rintro v3 sg3 ow3 ⟨k3,f3⟩
  simp only[wA,seval,reduceCtorEq,reduceIte]
  exact⟨by simpa using k3,g2M ((f1.trans f2).trans f3)⟩
 ·have ht:txP (f3L e)=(([104,97,115,104,40]++Lib.decDigits u)++[59,32])++(txP (f3J ((e.args.map ar).map (f3I 1)))++[41]):=by
   rw[hbe,o,hu]
   simp only[f3K,Int.reduceEq,if_false,if_true,f6D,f6E,f6C,nu,kw,sy,g6D,g2F]
   simp [txP,pcT]
  rw[ht] at hlen ⊢
  simp only[g7K,g7L,g7O] at hlen
  have hd:=(e7U u hu2).1
  have hb1:5+(Lib.decDigits u).length≤4611686018427387904:=by omega
  have hb2:(Lib.decDigits u).length+5+2≤4611686018427387904:=by omega
  simp only[wA,seval,reduceCtorEq,reduceIte,d2M,o,hu,ok96 h2 hu2,a0G,hb1,hb2]
  have wl:=g2C (gl:=gl) (x:=104::97::115::104::40::(Lib.decDigits u++[59,32])) (g2L hk (false,[.t (.int .i64 6),.t (.int .u64 (u:Int)),.t (.str e.name),.t (.sl e.nl (d2K e.args))])) (by simp only[g7K,g7L,g7O];omega)
  refine CallE.mono wl ?_
  rintro v1 sg1 ow1 ⟨k1,f1⟩
  have z1:=g2N f1 hid
  simp only[wA,seval,reduceCtorEq,reduceIte,z1]
  refine CallE.mono (g2K h4 ha k1 (by simp only[g7K,g7L,g7O];omega)) ?_
  rintro v2 sg2 ow2 ⟨k2,f2⟩
  simp only[wA,seval,reduceCtorEq,reduceIte]
  refine CallE.mono (g2C k2 (by simp only[g7K,g7L,g7O];omega)) ?_
  rintro v3 sg3 ow3 ⟨k3,f3⟩
  simp only[wA,seval,reduceCtorEq,reduceIte]
  exact⟨by simpa using k3,g2M ((f1.trans f2).trans f3)⟩
 ·have ht:txP (f3L e)=[91]++(txP (f3J ((e.args.map ar).map (f3I 1)))++[93]):=by
   rw[hbe,o]
   simp only[f3K,Int.reduceEq,if_false,if_true,f6D,f6C,sy]
   simp [txP,pcT]
  rw[ht] at hlen ⊢
  simp only[g7K,g7L,g7O] at hlen
  simp only[wA,seval,reduceCtorEq,reduceIte,d2M,o]
  refine CallE.mono (g2C (g2L hk _) (by simp only[g7K,g7L,g7O];omega)) ?_
  rintro v1 sg1 ow1 ⟨k1,f1⟩
  have z1:=g2N f1 hid
  simp only[wA,seval,reduceCtorEq,reduceIte,z1]
  refine CallE.mono (g2K h4 ha k1 (by simp only[g7K,g7L,g7O];omega)) ?_
  rintro v2 sg2 ow2 ⟨k2,f2⟩
  simp only[wA,seval,reduceCtorEq,reduceIte]
  refine CallE.mono (g2C k2 (by simp only[g7K,g7L,g7O];omega)) ?_
  rintro v3 sg3 ow3 ⟨k3,f3⟩
  simp only[wA,seval,reduceCtorEq,reduceIte]
  exact⟨by simpa using k3,g2M ((f1.trans f2).trans f3)⟩
theorem g2Y (h2:gl 1=some (p10.map (T.int .u64))):∀ e:Exp,exB e=true→ExpOk e→WrE gl e:=by
 refine Exp.ind fun e ih hv ho=>?_
 have ho':=ho
 cases ho' with|mk _ h1 _ h3 h4 h5 h6 =>
 have hv':=hv
 rw[d3V,g5U,g6F] at hv'
 have hw:=g2V e (g2X h2 hv ho fun a h=>ih a h (hv'.1 a h) (h6 a h))
 intro r hr id s sg ow hk hlen
 have hlv:=@ok69 gl e
 simp only[d2M] at hlv
 have hid:=hk.lt
 refine XcE.of F37 rfl ?_
 simp only[c5B]
 by_cases c:f3G e.op < r
 ·have hp:txP (f3I r (ar e))=[40]++(txP (f3L e)++[41]):=by
   have:f3I r (ar e)=some (sy [40])::(f3L e++[some (sy [41])]):=if_pos c
   rw[this,f6D,f6C]
   rfl
  rw[hp] at hlen ⊢
  simp only[g7K,g7L,g7O] at hlen
  have c':((f3G e.op:Nat):Int) < ((r:Nat):Int):=by omega
  simp only[wA,seval,reduceCtorEq,reduceIte,d2M,hlv,c']
  refine CallE.mono (g2C (g2L hk _) (by simp only[g7K,g7L,g7O];omega)) ?_
  rintro v1 sg1 ow1 ⟨k1,f1⟩
  have z1:=g2N f1 hid
  simp only[wA,seval,reduceCtorEq,reduceIte,z1]
  refine CallE.mono (hw _ _ _ _ k1 (by simp only[g7K,g7L,g7O];omega)) ?_
  rintro v2 sg2 ow2 ⟨k2,f2⟩
  simp only[wA,seval,reduceCtorEq,reduceIte]
  refine CallE.mono (g2C k2 (by simp only[g7K,g7L,g7O];omega)) ?_
  rintro v3 sg3 ow3 ⟨k3,f3⟩
  simp only[wA,seval,reduceCtorEq,reduceIte]
  exact⟨by simpa using k3,g2M ((f1.trans f2).trans f3)⟩
 ·have hp:txP (f3I r (ar e))=txP (f3L e):=by
   have:f3I r (ar e)=f3L e:=if_neg c
   rw[this]
  rw[hp] at hlen ⊢
  have c':¬((f3G e.op:Nat):Int) < ((r:Nat):Int):=by omega
  simp only[wA,seval,reduceCtorEq,reduceIte,d2M,hlv,c']
  refine CallE.mono (hw _ _ _ _ (g2L hk _) hlen) ?_
  rintro v1 sg1 ow1 ⟨k1,f1⟩
  simp only[wA,seval,reduceCtorEq,reduceIte]
  exact⟨k1,g2M f1⟩
end Go.Proofs.YtcbgiabippcpaaaGreatDoor

/- strconv.Itoa of numbers with up to seven digits (printed by geny0.py). -/
namespace Go.Proofs.YtcbgiabippcpaaaGreatDoor
open Go.Pi Go.Lib
variable {gl:Nat→Option (List T)}
abbrev c0:PV:=.t (.int .u8 0)
theorem g2Z {v:Nat} (hv':v < 1000) {ow:Ow} {K:PV→Sg→Ow→Prop}:XcE F gl 131 [.ls 0 1 3 1,.t (.int .u64 (v:Int))] [(false,[c0,c0,c0,c0,c0,c0,c0,c0,c0,c0,c0,c0,c0,c0,c0,c0,c0,c0,c0,c0,c0,c0,c0,c0])] ow K ⟨⟩↔K (.tup []) [(false,c0::((dgs 3 v).map e7J++[c0,c0,c0,c0,c0,c0,c0,c0,c0,c0,c0,c0,c0,c0,c0,c0,c0,c0,c0,c0]))] ow:=by
 refine RetE.iff (RetE.of c9R rfl ?_)
 simp only[c9M]
 simp only[wA,seval,reduceCtorEq,reduceIte]
 repeat' ((with_reducible first|refine c3G ?_ ?_|refine c3H ?_ ?_|refine c3F ?_ ?_|refine c3E ?_ ?_|refine c3C ?_ ?_|refine c3D ?_ ?_|refine c3B ?_ ?_|refine c3A ?_ ?_) <;> intro h <;> (try simp only[wA,seval,reduceCtorEq,reduceIte,h]))
 have n2:¬((10000:Int)=0):=by decide
 have n3:¬((100:Int)=0):=by decide
 have c8:¬((8:Int)≤3):=by decide
 have wv:IntKind.u32.wrap (v:Int)=(v:Int):=IntWalk.u32_in _ (by omega)
 have i0:IntKind.i64.wrap 0=0:=by decide
 have i1:IntKind.i64.wrap 1=1:=by decide
 have i2:IntKind.i64.wrap 2=2:=by decide
 obtain⟨Te,To⟩:=sml (v:=v % 100) (by omega)
 have Tw:IntKind.u32.wrap (((v % 100:Nat):Int) * 2)=((v % 100 * 2:Nat):Int):=by rw[IntWalk.u32_in _ (by omega)];omega
 have Tx:IntKind.u32.wrap (((v % 100 * 2:Nat):Int)+1)=((v % 100 * 2+1:Nat):Int):=by rw[IntWalk.u32_in _ (by omega)];omega
 have w3:IntKind.u32.wrap ((v / 100:Nat):Int)=((v / 100:Nat):Int):=IntWalk.u32_in _ (by omega)
 have z1:IntKind.u32.wrap (48+((v / 100:Nat):Int))=((48+v / 100:Nat):Int):=by rw[IntWalk.u32_in _ (by omega)];omega
 have z2:IntKind.u8.wrap ((48+v / 100:Nat):Int)=((UInt8.ofNat (48+v / 100)).toNat:Int):=by rw[IntWalk.u8_in _ (by omega),g9H];omega
 refine Xl.step ?_
 simp only[c9L]
 simp only[wA,seval,reduceCtorEq,reduceIte,c8,n2,n3,e7L,e7M,e7N,wv,i0,i1,i2,Te,To,Tw,Tx,w3,z1,z2,g8G,g7P,g8Y,g8K,g8L,g8P,g9U]
 rw[dg3 hv']
 rfl
theorem g3A {v:Nat} (hv':v < 10000) {ow:Ow} {K:PV→Sg→Ow→Prop}:XcE F gl 131 [.ls 0 1 4 1,.t (.int .u64 (v:Int))] [(false,[c0,c0,c0,c0,c0,c0,c0,c0,c0,c0,c0,c0,c0,c0,c0,c0,c0,c0,c0,c0,c0,c0,c0,c0])] ow K ⟨⟩↔K (.tup []) [(false,c0::((dgs 4 v).map e7J++[c0,c0,c0,c0,c0,c0,c0,c0,c0,c0,c0,c0,c0,c0,c0,c0,c0,c0,c0]))] ow:=by
 refine RetE.iff (RetE.of c9R rfl ?_)
 simp only[c9M]
 simp only[wA,seval,reduceCtorEq,reduceIte]
 repeat' ((with_reducible first|refine c3G ?_ ?_|refine c3H ?_ ?_|refine c3F ?_ ?_|refine c3E ?_ ?_|refine c3C ?_ ?_|refine c3D ?_ ?_|refine c3B ?_ ?_|refine c3A ?_ ?_) <;> intro h <;> (try simp only[wA,seval,reduceCtorEq,reduceIte,h]))
 have n2:¬((10000:Int)=0):=by decide
 have n3:¬((100:Int)=0):=by decide
 have c8:¬((8:Int)≤4):=by decide
 have wv:IntKind.u32.wrap (v:Int)=(v:Int):=IntWalk.u32_in _ (by omega)
 have i0:IntKind.i64.wrap 0=0:=by decide
 have i1:IntKind.i64.wrap 1=1:=by decide
 have i2:IntKind.i64.wrap 2=2:=by decide
 have i3:IntKind.i64.wrap 3=3:=by decide
 obtain⟨Pe,Po⟩:=sml (v:=v % 10000 / 100) (by omega)
 have Pw:IntKind.u32.wrap (((v % 10000 / 100:Nat):Int) * 2)=((v % 10000 / 100 * 2:Nat):Int):=by rw[IntWalk.u32_in _ (by omega)];omega
 have Px:IntKind.u32.wrap (((v % 10000 / 100 * 2:Nat):Int)+1)=((v % 10000 / 100 * 2+1:Nat):Int):=by rw[IntWalk.u32_in _ (by omega)];omega
 obtain⟨Re,Ro⟩:=sml (v:=v % 10000 % 100) (by omega)
 have Rw:IntKind.u32.wrap (((v % 10000 % 100:Nat):Int) * 2)=((v % 10000 % 100 * 2:Nat):Int):=by rw[IntWalk.u32_in _ (by omega)];omega
 have Rx:IntKind.u32.wrap (((v % 10000 % 100 * 2:Nat):Int)+1)=((v % 10000 % 100 * 2+1:Nat):Int):=by rw[IntWalk.u32_in _ (by omega)];omega
 have w1:IntKind.u32.wrap ((v % 10000 / 100:Nat):Int)=((v % 10000 / 100:Nat):Int):=IntWalk.u32_in _ (by omega)
 have w2:IntKind.u32.wrap ((v / 10000:Nat):Int)=((v / 10000:Nat):Int):=IntWalk.u32_in _ (by omega)
 refine Xl.step ?_
 simp only[c9L]
 simp only[wA,seval,reduceCtorEq,reduceIte,c8,n2,n3,e7L,e7M,e7N,wv,i0,i1,i2,i3,Pe,Po,Pw,Px,Re,Ro,Rw,Rx,w1,w2,g8G,g7P,g8Y,g8K,g8L,g8P,g9U]
 rw[dg4 hv']
 rfl
theorem g3B {v:Nat} (hv':v < 100000) {ow:Ow} {K:PV→Sg→Ow→Prop}:XcE F gl 131 [.ls 0 1 5 1,.t (.int .u64 (v:Int))] [(false,[c0,c0,c0,c0,c0,c0,c0,c0,c0,c0,c0,c0,c0,c0,c0,c0,c0,c0,c0,c0,c0,c0,c0,c0])] ow K ⟨⟩↔K (.tup []) [(false,c0::((dgs 5 v).map e7J++[c0,c0,c0,c0,c0,c0,c0,c0,c0,c0,c0,c0,c0,c0,c0,c0,c0,c0]))] ow:=by
 refine RetE.iff (RetE.of c9R rfl ?_)
 simp only[c9M]
 simp only[wA,seval,reduceCtorEq,reduceIte]
 repeat' ((with_reducible first|refine c3G ?_ ?_|refine c3H ?_ ?_|refine c3F ?_ ?_|refine c3E ?_ ?_|refine c3C ?_ ?_|refine c3D ?_ ?_|refine c3B ?_ ?_|refine c3A ?_ ?_) <;> intro h <;> (try simp only[wA,seval,reduceCtorEq,reduceIte,h]))
 have n2:¬((10000:Int)=0):=by decide
 have n3:¬((100:Int)=0):=by decide
 have c8:¬((8:Int)≤5):=by decide
 have wv:IntKind.u32.wrap (v:Int)=(v:Int):=IntWalk.u32_in _ (by omega)
 have i0:IntKind.i64.wrap 0=0:=by decide
 have i1:IntKind.i64.wrap 1=1:=by decide
 have i2:IntKind.i64.wrap 2=2:=by decide
 have i3:IntKind.i64.wrap 3=3:=by decide
 have i4:IntKind.i64.wrap 4=4:=by decide
 obtain⟨Pe,Po⟩:=sml (v:=v % 10000 / 100) (by omega)
 have Pw:IntKind.u32.wrap (((v % 10000 / 100:Nat):Int) * 2)=((v % 10000 / 100 * 2:Nat):Int):=by rw[IntWalk.u32_in _ (by omega)];omega
 have Px:IntKind.u32.wrap (((v % 10000 / 100 * 2:Nat):Int)+1)=((v % 10000 / 100 * 2+1:Nat):Int):=by rw[IntWalk.u32_in _ (by omega)];omega
 obtain⟨Re,Ro⟩:=sml (v:=v % 10000 % 100) (by omega)
 have Rw:IntKind.u32.wrap (((v % 10000 % 100:Nat):Int) * 2)=((v % 10000 % 100 * 2:Nat):Int):=by rw[IntWalk.u32_in _ (by omega)];omega
 have Rx:IntKind.u32.wrap (((v % 10000 % 100 * 2:Nat):Int)+1)=((v % 10000 % 100 * 2+1:Nat):Int):=by rw[IntWalk.u32_in _ (by omega)];omega
 have w1:IntKind.u32.wrap ((v % 10000 / 100:Nat):Int)=((v % 10000 / 100:Nat):Int):=IntWalk.u32_in _ (by omega)
 have w2:IntKind.u32.wrap ((v / 10000:Nat):Int)=((v / 10000:Nat):Int):=IntWalk.u32_in _ (by omega)
 have z1:IntKind.u32.wrap (48+((v / 10000:Nat):Int))=((48+v / 10000:Nat):Int):=by rw[IntWalk.u32_in _ (by omega)];omega
 have z2:IntKind.u8.wrap ((48+v / 10000:Nat):Int)=((UInt8.ofNat (48+v / 10000)).toNat:Int):=by rw[IntWalk.u8_in _ (by omega),g9H];omega
 refine Xl.step ?_
 simp only[c9L]
 simp only[wA,seval,reduceCtorEq,reduceIte,c8,n2,n3,e7L,e7M,e7N,wv,i0,i1,i2,i3,i4,Pe,Po,Pw,Px,Re,Ro,Rw,Rx,w1,w2,z1,z2,g8G,g7P,g8Y,g8K,g8L,g8P,g9U]
 rw[dg5 hv']
 rfl
theorem g3C {v:Nat} (hv':v < 1000000) {ow:Ow} {K:PV→Sg→Ow→Prop}:XcE F gl 131 [.ls 0 1 6 1,.t (.int .u64 (v:Int))] [(false,[c0,c0,c0,c0,c0,c0,c0,c0,c0,c0,c0,c0,c0,c0,c0,c0,c0,c0,c0,c0,c0,c0,c0,c0])] ow K ⟨⟩↔K (.tup []) [(false,c0::((dgs 6 v).map e7J++[c0,c0,c0,c0,c0,c0,c0,c0,c0,c0,c0,c0,c0,c0,c0,c0,c0]))] ow:=by
 refine RetE.iff (RetE.of c9R rfl ?_)
 simp only[c9M]
 simp only[wA,seval,reduceCtorEq,reduceIte]
 repeat' ((with_reducible first|refine c3G ?_ ?_|refine c3H ?_ ?_|refine c3F ?_ ?_|refine c3E ?_ ?_|refine c3C ?_ ?_|refine c3D ?_ ?_|refine c3B ?_ ?_|refine c3A ?_ ?_) <;> intro h <;> (try simp only[wA,seval,reduceCtorEq,reduceIte,h]))
 have n2:¬((10000:Int)=0):=by decide
 have n3:¬((100:Int)=0):=by decide
 have c8:¬((8:Int)≤6):=by decide
 have wv:IntKind.u32.wrap (v:Int)=(v:Int):=IntWalk.u32_in _ (by omega)
 have i0:IntKind.i64.wrap 0=0:=by decide
 have i1:IntKind.i64.wrap 1=1:=by decide
 have i2:IntKind.i64.wrap 2=2:=by decide
 have i3:IntKind.i64.wrap 3=3:=by decide
 have i4:IntKind.i64.wrap 4=4:=by decide
 have i5:IntKind.i64.wrap 5=5:=by decide
 obtain⟨Pe,Po⟩:=sml (v:=v % 10000 / 100) (by omega)
 have Pw:IntKind.u32.wrap (((v % 10000 / 100:Nat):Int) * 2)=((v % 10000 / 100 * 2:Nat):Int):=by rw[IntWalk.u32_in _ (by omega)];omega
 have Px:IntKind.u32.wrap (((v % 10000 / 100 * 2:Nat):Int)+1)=((v % 10000 / 100 * 2+1:Nat):Int):=by rw[IntWalk.u32_in _ (by omega)];omega
 obtain⟨Re,Ro⟩:=sml (v:=v % 10000 % 100) (by omega)
 have Rw:IntKind.u32.wrap (((v % 10000 % 100:Nat):Int) * 2)=((v % 10000 % 100 * 2:Nat):Int):=by rw[IntWalk.u32_in _ (by omega)];omega
 have Rx:IntKind.u32.wrap (((v % 10000 % 100 * 2:Nat):Int)+1)=((v % 10000 % 100 * 2+1:Nat):Int):=by rw[IntWalk.u32_in _ (by omega)];omega
 have w1:IntKind.u32.wrap ((v % 10000 / 100:Nat):Int)=((v % 10000 / 100:Nat):Int):=IntWalk.u32_in _ (by omega)
 have w2:IntKind.u32.wrap ((v / 10000:Nat):Int)=((v / 10000:Nat):Int):=IntWalk.u32_in _ (by omega)
 obtain⟨Te,To⟩:=sml (v:=v / 10000 % 100) (by omega)
 have Tw:IntKind.u32.wrap (((v / 10000 % 100:Nat):Int) * 2)=((v / 10000 % 100 * 2:Nat):Int):=by rw[IntWalk.u32_in _ (by omega)];omega
 have Tx:IntKind.u32.wrap (((v / 10000 % 100 * 2:Nat):Int)+1)=((v / 10000 % 100 * 2+1:Nat):Int):=by rw[IntWalk.u32_in _ (by omega)];omega
 have w3:IntKind.u32.wrap ((v / 10000 / 100:Nat):Int)=((v / 10000 / 100:Nat):Int):=IntWalk.u32_in _ (by omega)
 refine Xl.step ?_
 simp only[c9L]
 simp only[wA,seval,reduceCtorEq,reduceIte,c8,n2,n3,e7L,e7M,e7N,wv,i0,i1,i2,i3,i4,i5,Pe,Po,Pw,Px,Re,Ro,Rw,Rx,w1,w2,Te,To,Tw,Tx,w3,g8G,g7P,g8Y,g8K,g8L,g8P,g9U]
 rw[dg6 hv']
 rfl
theorem g3D {v:Nat} (hv':v < 10000000) {ow:Ow} {K:PV→Sg→Ow→Prop}:XcE F gl 131 [.ls 0 1 7 1,.t (.int .u64 (v:Int))] [(false,[c0,c0,c0,c0,c0,c0,c0,c0,c0,c0,c0,c0,c0,c0,c0,c0,c0,c0,c0,c0,c0,c0,c0,c0])] ow K ⟨⟩↔K (.tup []) [(false,c0::((dgs 7 v).map e7J++[c0,c0,c0,c0,c0,c0,c0,c0,c0,c0,c0,c0,c0,c0,c0,c0]))] ow:=by
 refine RetE.iff (RetE.of c9R rfl ?_)
 simp only[c9M]
 simp only[wA,seval,reduceCtorEq,reduceIte]
 repeat' ((with_reducible first|refine c3G ?_ ?_|refine c3H ?_ ?_|refine c3F ?_ ?_|refine c3E ?_ ?_|refine c3C ?_ ?_|refine c3D ?_ ?_|refine c3B ?_ ?_|refine c3A ?_ ?_) <;> intro h <;> (try simp only[wA,seval,reduceCtorEq,reduceIte,h]))
 have n2:¬((10000:Int)=0):=by decide
 have n3:¬((100:Int)=0):=by decide
 have c8:¬((8:Int)≤7):=by decide
 have wv:IntKind.u32.wrap (v:Int)=(v:Int):=IntWalk.u32_in _ (by omega)
 have i0:IntKind.i64.wrap 0=0:=by decide
 have i1:IntKind.i64.wrap 1=1:=by decide
 have i2:IntKind.i64.wrap 2=2:=by decide
 have i3:IntKind.i64.wrap 3=3:=by decide
 have i4:IntKind.i64.wrap 4=4:=by decide
 have i5:IntKind.i64.wrap 5=5:=by decide
 have i6:IntKind.i64.wrap 6=6:=by decide
 obtain⟨Pe,Po⟩:=sml (v:=v % 10000 / 100) (by omega)
 have Pw:IntKind.u32.wrap (((v % 10000 / 100:Nat):Int) * 2)=((v % 10000 / 100 * 2:Nat):Int):=by rw[IntWalk.u32_in _ (by omega)];omega
 have Px:IntKind.u32.wrap (((v % 10000 / 100 * 2:Nat):Int)+1)=((v % 10000 / 100 * 2+1:Nat):Int):=by rw[IntWalk.u32_in _ (by omega)];omega
 obtain⟨Re,Ro⟩:=sml (v:=v % 10000 % 100) (by omega)
 have Rw:IntKind.u32.wrap (((v % 10000 % 100:Nat):Int) * 2)=((v % 10000 % 100 * 2:Nat):Int):=by rw[IntWalk.u32_in _ (by omega)];omega
 have Rx:IntKind.u32.wrap (((v % 10000 % 100 * 2:Nat):Int)+1)=((v % 10000 % 100 * 2+1:Nat):Int):=by rw[IntWalk.u32_in _ (by omega)];omega
 have w1:IntKind.u32.wrap ((v % 10000 / 100:Nat):Int)=((v % 10000 / 100:Nat):Int):=IntWalk.u32_in _ (by omega)
 have w2:IntKind.u32.wrap ((v / 10000:Nat):Int)=((v / 10000:Nat):Int):=IntWalk.u32_in _ (by omega)
 obtain⟨Te,To⟩:=sml (v:=v / 10000 % 100) (by omega)
 have Tw:IntKind.u32.wrap (((v / 10000 % 100:Nat):Int) * 2)=((v / 10000 % 100 * 2:Nat):Int):=by rw[IntWalk.u32_in _ (by omega)];omega
 have Tx:IntKind.u32.wrap (((v / 10000 % 100 * 2:Nat):Int)+1)=((v / 10000 % 100 * 2+1:Nat):Int):=by rw[IntWalk.u32_in _ (by omega)];omega
 have w3:IntKind.u32.wrap ((v / 10000 / 100:Nat):Int)=((v / 10000 / 100:Nat):Int):=IntWalk.u32_in _ (by omega)
 have z1:IntKind.u32.wrap (48+((v / 10000 / 100:Nat):Int))=((48+v / 10000 / 100:Nat):Int):=by rw[IntWalk.u32_in _ (by omega)];omega
 have z2:IntKind.u8.wrap ((48+v / 10000 / 100:Nat):Int)=((UInt8.ofNat (48+v / 10000 / 100)).toNat:Int):=by rw[IntWalk.u8_in _ (by omega),g9H];omega
 refine Xl.step ?_
 simp only[c9L]
 simp only[wA,seval,reduceCtorEq,reduceIte,c8,n2,n3,e7L,e7M,e7N,wv,i0,i1,i2,i3,i4,i5,i6,Pe,Po,Pw,Px,Re,Ro,Rw,Rx,w1,w2,Te,To,Tw,Tx,w3,z1,z2,g8G,g7P,g8Y,g8K,g8L,g8P,g9U]
 rw[dg7 hv']
 rfl
end Go.Proofs.YtcbgiabippcpaaaGreatDoor

/- strconv.Itoa; texts of types (printed by geny1.py). -/
namespace Go.Proofs.YtcbgiabippcpaaaGreatDoor
open Go.Pi Go.Lx Go.Ky
variable {gl:Nat→Option (List T)}
theorem g3E {c:Prop} [Decidable c] {α:Type} {x:α} {k:α→Prop} (h:c) (hk:k x):xO (if c then some x else none) k ⟨⟩:=by rw[if_pos h];exact hk
theorem g3F {sg:Sg} {id n:Nat} {p:PV} {s:List UInt8} {D:List PV} (hs:sg[id]?=some (false,p::(s.map e7J++D))) (hn:n=s.length):a0L sg 1 (.ls id 1 n 1)=some (a0I s):=by
 subst hn
 have e:s.map e7J=(s.map fun b=>T.int .u8 (b.toNat:Int)).map PV.t:=by simp [e7J]
 have hl:(s.map fun b=>T.int .u8 (b.toNat:Int)).length=s.length:=by simp
 have hany:(s.map fun b=>T.int .u8 (b.toNat:Int)).any T.isAgg=false:=by simp [T.isAgg]
 have ht:List.take (s.length * 1) (List.drop 1 (p::(s.map e7J++D)))=s.map e7J:=by
  rw[g8Y,g6N,g6O,List.take_append_of_le_length (by simp)]
  exact List.take_of_length_le (by simp)
 simp only[a0L,a0K,if_true,hs,ht]
 rw[if_pos (by simp;omega),e,a4Y]
 simp only[hany]
 have:=a7C (s.map fun b=>T.int .u8 (b.toNat:Int))
 rw[hl] at this
 rw[this]
 simp [a0I]
theorem g3G {u:Nat} (h:100≤u) (h7:u≤9999999):Lib.nDigits u=3∧u < 1000∨Lib.nDigits u=4∧u < 10000∨Lib.nDigits u=5∧u < 100000∨Lib.nDigits u=6∧u < 1000000∨Lib.nDigits u=7∧u < 10000000:=by
 have step:∀ v:Nat,Lib.nDigits v=if v < 10 then 1 else Lib.nDigits (v / 10)+1:=fun v=>by
  rw[Lib.nDigits];split <;> rfl
 rw[step u,if_neg (by omega),step (u / 10),if_neg (by omega),step (u / 10 / 10)]
 by_cases c3:u / 10 / 10 < 10
 ·rw[if_pos c3];omega
 rw[if_neg c3,step (u / 10 / 10 / 10)]
 by_cases c4:u / 10 / 10 / 10 < 10
 ·rw[if_pos c4];omega
 rw[if_neg c4,step (u / 10 / 10 / 10 / 10)]
 by_cases c5:u / 10 / 10 / 10 / 10 < 10
 ·rw[if_pos c5];omega
 rw[if_neg c5,step (u / 10 / 10 / 10 / 10 / 10)]
 by_cases c6:u / 10 / 10 / 10 / 10 / 10 < 10
 ·rw[if_pos c6];omega
 rw[if_neg c6,step (u / 10 / 10 / 10 / 10 / 10 / 10),if_pos (by omega)]
 omega
theorem g3H (h2:gl 1=some (p10.map (T.int .u64))) {u:Nat} (hu:u≤9999999) {K:PV→Prop}:XcP F gl 120 [.int .i64 (u:Int),.int .i64 10] K ⟨⟩↔K (.t (.str (Lib.decDigits u))):=by
 refine Ret.iff (Ret.of F120 rfl ?_)
 simp only[c8O]
 have c0:0≤(u:Int):=by omega
 have cn:¬(u:Int) < 0:=by omega
 by_cases c:(u:Int) < 100
 ·have a:=@e7B gl (u:Int) (by omega) c
  rw[g6D] at a
  simp only[wA,seval,reduceCtorEq,reduceIte,c0,c,a]
 ·have a1:=@e7G gl h2 (u:Int) (by omega) (by omega)
  rw[g6D] at a1
  have w:IntKind.u64.wrap (u:Int)=(u:Int):=IntWalk.u64_in _ (by omega)
  have hd:=e7H u
  rcases g3G (by omega) hu with⟨e,hb⟩|⟨e,hb⟩|⟨e,hb⟩|⟨e,hb⟩|⟨e,hb⟩
  ·rw[e] at a1 hd
   rw[hd]
   simp only[g6C] at a1
   have a2:=fun K=>@g2Z gl u hb [] K
   have w4:IntKind.i64.wrap 4=4:=by decide
   have hel:∀ D,a0L [(false,Go.Proofs.YtcbgiabippcpaaaGreatDoor.c0::((dgs 3 u).map e7J++D))] 1 (.ls 0 1 3 1)=some (a0I (dgs 3 u)):=fun D=>g3F (D:=D) rfl (e7I _ _).symm
   simp only[wA,seval,reduceCtorEq,reduceIte,c0,c,cn,a1,w,w4,a0U,Nat.reduceSub,a2,hel,e7S]
  ·rw[e] at a1 hd
   rw[hd]
   simp only[g6C] at a1
   have a2:=fun K=>@g3A gl u hb [] K
   have w4:IntKind.i64.wrap 5=5:=by decide
   have hel:∀ D,a0L [(false,Go.Proofs.YtcbgiabippcpaaaGreatDoor.c0::((dgs 4 u).map e7J++D))] 1 (.ls 0 1 4 1)=some (a0I (dgs 4 u)):=fun D=>g3F (D:=D) rfl (e7I _ _).symm
   simp only[wA,seval,reduceCtorEq,reduceIte,c0,c,cn,a1,w,w4,a0U,Nat.reduceSub,a2,hel,e7S]
  ·rw[e] at a1 hd
   rw[hd]
   simp only[g6C] at a1
   have a2:=fun K=>@g3B gl u hb [] K
   have w4:IntKind.i64.wrap 6=6:=by decide
   have hel:∀ D,a0L [(false,Go.Proofs.YtcbgiabippcpaaaGreatDoor.c0::((dgs 5 u).map e7J++D))] 1 (.ls 0 1 5 1)=some (a0I (dgs 5 u)):=fun D=>g3F (D:=D) rfl (e7I _ _).symm
   simp only[wA,seval,reduceCtorEq,reduceIte,c0,c,cn,a1,w,w4,a0U,Nat.reduceSub,a2,hel,e7S]
  ·rw[e] at a1 hd
   rw[hd]
   simp only[g6C] at a1
   have a2:=fun K=>@g3C gl u hb [] K
   have w4:IntKind.i64.wrap 7=7:=by decide
   have hel:∀ D,a0L [(false,Go.Proofs.YtcbgiabippcpaaaGreatDoor.c0::((dgs 6 u).map e7J++D))] 1 (.ls 0 1 6 1)=some (a0I (dgs 6 u)):=fun D=>g3F (D:=D) rfl (e7I _ _).symm
   simp only[wA,seval,reduceCtorEq,reduceIte,c0,c,cn,a1,w,w4,a0U,Nat.reduceSub,a2,hel,e7S]
  ·rw[e] at a1 hd
   rw[hd]
   simp only[g6C] at a1
   have a2:=fun K=>@g3D gl u hb [] K
   have w4:IntKind.i64.wrap 8=8:=by decide
   have hel:∀ D,a0L [(false,Go.Proofs.YtcbgiabippcpaaaGreatDoor.c0::((dgs 7 u).map e7J++D))] 1 (.ls 0 1 7 1)=some (a0I (dgs 7 u)):=fun D=>g3F (D:=D) rfl (e7I _ _).symm
   simp only[wA,seval,reduceCtorEq,reduceIte,c0,c,cn,a1,w,w4,a0U,Nat.reduceSub,a2,hel,e7S]
theorem g3I (h2:gl 1=some (p10.map (T.int .u64))) {u:Nat} (hu:u≤9999999) {K:PV→Prop}:XcP F gl 107 [.int .i64 (u:Int)] K ⟨⟩↔K (.t (.str (Lib.decDigits u))):=by
 refine Ret.iff (Ret.of F107 rfl ?_)
 simp only[c8C]
 simp only[wA,seval,reduceCtorEq,reduceIte,g3H h2 hu]
theorem g3J (h2:gl 1=some (p10.map (T.int .u64))) {u:Nat} (hu:u≤9999999) {K:PV→Prop}:XcP F gl 81 [.int .i64 (u:Int)] K ⟨⟩↔K (.t (.str (Lib.decDigits u))):=by
 refine Ret.iff (Ret.of F81 rfl ?_)
 simp only[c6X]
 simp only[wA,seval,reduceCtorEq,reduceIte,g3I h2 hu]
theorem g3K {t:Ty} (hv:tyB t=true):∃ b n:Nat,b≤62∧n≤64∧(t=⟨1,0,n⟩∨t=⟨2,0,n⟩∨t=⟨3,b,n⟩):=by
 obtain⟨k,b,l⟩:=t
 unfold tyB at hv
 split at hv
 ·cases hv
 rename_i hl
 have hl:¬(l < 0∨64 < l):=hl
 have hl1:l=((l.toNat:Nat):Int):=by omega
 split at hv
 ·rename_i hk
  have hk:k=1∨k=2:=hk
  rw[g9N] at hv
  have hv:b=0:=hv
  refine⟨0,l.toNat,by omega,by omega,?_⟩
  rw[←hl1]
  rcases hk with hk|hk
  ·left;rw[hk,hv]
  ·right;left;rw[hk,hv]
 ·split at hv
  ·rename_i hk
   have hk:k=3:=hk
   rw[g5U,g9N,g9N] at hv
   have hv:1≤b∧b≤62:=hv
   refine⟨b.toNat,l.toNat,by omega,by omega,?_⟩
   rw[←hl1]
   right;right
   rw[hk,g6E (by omega)]
  ·cases hv
def arT (n:Nat):List UInt8:=if 0 < n then 91::(Lib.decDigits n++[93]) else []
theorem g3L {n:Nat}:txP (if 0 < (n:Int) then [some (sy [91]),some (nu (n:Int).toNat),some (sy [93])] else [])=arT n:=by
 unfold arT
 by_cases h:0 < n
 ·rw[if_pos h,if_pos (by omega),f6D,f6D,f6D,g6D]
  show[91]++(d1M n++([93]++[]))=_
  rw[g2F]
  rfl
 ·rw[if_neg h,if_neg (by omega)];rfl
theorem g3M {n:Nat}:txP (tyP ⟨1,0,(n:Int)⟩)=[102,105,101,108,100]++arT n:=by
 unfold tyP
 rw[f6C,g3L]
 rfl
theorem g3N {n:Nat}:txP (tyP ⟨2,0,(n:Int)⟩)=[98,111,111,108]++arT n:=by
 unfold tyP
 rw[f6C,g3L]
 rfl
theorem g3O {b n:Nat}:txP (tyP ⟨3,(b:Int),(n:Int)⟩)=([117,105,110,116,32]++Lib.decDigits b)++arT n:=by
 unfold tyP
 rw[f6C,g3L]
 congr 1
 show txP [some (kw [117,105,110,116]),none,some (nu (b:Int).toNat)]=_
 rw[f6D,f6E,f6D,g6D]
 show[117,105,110,116]++(32::(d1M b++[]))=_
 rw[g2F,g6J]
 rfl
set_option maxHeartbeats 1000000 in
theorem g3P (h2:gl 1=some (p10.map (T.int .u64))) {t:Ty} (hv:tyB t=true) {K:PV→Prop}:XcP F gl 45 [.agg (tTy t)] K ⟨⟩↔K (.t (.str (txP (tyP t)))):=by
 obtain⟨b,n,hb,hn,ht⟩:=g3K hv
 have l1:=(e7U b (by omega)).1
 have l2:=(e7U n (by omega)).1
 have I1:=fun K=>g3J (gl:=gl) h2 (u:=b) (by omega) (K:=K)
 have I2:=fun K=>g3J (gl:=gl) h2 (u:=n) (by omega) (K:=K)
 refine Ret.iff (Ret.of F45 rfl ?_)
 simp only[c5L]
 by_cases c:0 < n
 ·have c':(((n:Int) > 0))=True:=g9P (by omega)
  have ea:arT n=91::(Lib.decDigits n++[93]):=if_pos c
  rcases ht with rfl|rfl|rfl
  ·rw[g3M,ea]
   simp only[wA,seval,reduceCtorEq,reduceIte,c',I1,I2,g6L,g8F,g6H,g7K]
   repeat' (first|((with_reducible first|refine c3G ?_ ?_|refine c3H ?_ ?_|refine c3F ?_ ?_|refine c3E ?_ ?_|refine c3C ?_ ?_|refine c3D ?_ ?_|refine c3B ?_ ?_|refine c3A ?_ ?_) <;> intro h <;> (try simp only[wA,seval,reduceCtorEq,reduceIte,c',I1,I2,g6L,g8F,g6H,g7K,h]))|((with_reducible refine g3E (by first|omega|(simp only[g7K,g7L,g7O];omega)) ?_);(try simp only[wA,seval,reduceCtorEq,reduceIte,c',I1,I2,g6L,g8F,g6H,g7K])))
  ·rw[g3N,ea]
   simp only[wA,seval,reduceCtorEq,reduceIte,c',I1,I2,g6L,g8F,g6H,g7K]
   repeat' (first|((with_reducible first|refine c3G ?_ ?_|refine c3H ?_ ?_|refine c3F ?_ ?_|refine c3E ?_ ?_|refine c3C ?_ ?_|refine c3D ?_ ?_|refine c3B ?_ ?_|refine c3A ?_ ?_) <;> intro h <;> (try simp only[wA,seval,reduceCtorEq,reduceIte,c',I1,I2,g6L,g8F,g6H,g7K,h]))|((with_reducible refine g3E (by first|omega|(simp only[g7K,g7L,g7O];omega)) ?_);(try simp only[wA,seval,reduceCtorEq,reduceIte,c',I1,I2,g6L,g8F,g6H,g7K])))
  ·rw[g3O,ea]
   simp only[wA,seval,reduceCtorEq,reduceIte,c',I1,I2,g6L,g8F,g6H,g7K]
   repeat' (first|((with_reducible first|refine c3G ?_ ?_|refine c3H ?_ ?_|refine c3F ?_ ?_|refine c3E ?_ ?_|refine c3C ?_ ?_|refine c3D ?_ ?_|refine c3B ?_ ?_|refine c3A ?_ ?_) <;> intro h <;> (try simp only[wA,seval,reduceCtorEq,reduceIte,c',I1,I2,g6L,g8F,g6H,g7K,h]))|((with_reducible refine g3E (by first|omega|(simp only[g7K,g7L,g7O];omega)) ?_);(try simp only[wA,seval,reduceCtorEq,reduceIte,c',I1,I2,g6L,g8F,g6H,g7K])))
 ·have c':(((n:Int) > 0))=False:=g9O (by omega)
  have ea:arT n=[]:=if_neg c
  rcases ht with rfl|rfl|rfl
  ·rw[g3M,ea]
   simp only[wA,seval,reduceCtorEq,reduceIte,c',I1,I2,g6L,g8F,g6J]
   repeat' (first|((with_reducible first|refine c3G ?_ ?_|refine c3H ?_ ?_|refine c3F ?_ ?_|refine c3E ?_ ?_|refine c3C ?_ ?_|refine c3D ?_ ?_|refine c3B ?_ ?_|refine c3A ?_ ?_) <;> intro h <;> (try simp only[wA,seval,reduceCtorEq,reduceIte,c',I1,I2,g6L,g8F,g6J,h]))|((with_reducible refine g3E (by first|omega|(simp only[g7K,g7L,g7O];omega)) ?_);(try simp only[wA,seval,reduceCtorEq,reduceIte,c',I1,I2,g6L,g8F,g6J])))
  ·rw[g3N,ea]
   simp only[wA,seval,reduceCtorEq,reduceIte,c',I1,I2,g6L,g8F,g6J]
   repeat' (first|((with_reducible first|refine c3G ?_ ?_|refine c3H ?_ ?_|refine c3F ?_ ?_|refine c3E ?_ ?_|refine c3C ?_ ?_|refine c3D ?_ ?_|refine c3B ?_ ?_|refine c3A ?_ ?_) <;> intro h <;> (try simp only[wA,seval,reduceCtorEq,reduceIte,c',I1,I2,g6L,g8F,g6J,h]))|((with_reducible refine g3E (by first|omega|(simp only[g7K,g7L,g7O];omega)) ?_);(try simp only[wA,seval,reduceCtorEq,reduceIte,c',I1,I2,g6L,g8F,g6J])))
  ·rw[g3O,ea]
   simp only[wA,seval,reduceCtorEq,reduceIte,c',I1,I2,g6L,g8F,g6J]
   repeat' (first|((with_reducible first|refine c3G ?_ ?_|refine c3H ?_ ?_|refine c3F ?_ ?_|refine c3E ?_ ?_|refine c3C ?_ ?_|refine c3D ?_ ?_|refine c3B ?_ ?_|refine c3A ?_ ?_) <;> intro h <;> (try simp only[wA,seval,reduceCtorEq,reduceIte,c',I1,I2,g6L,g8F,g6J,h]))|((with_reducible refine g3E (by first|omega|(simp only[g7K,g7L,g7O];omega)) ?_);(try simp only[wA,seval,reduceCtorEq,reduceIte,c',I1,I2,g6L,g8F,g6J])))
theorem g3Q {t:Ty} (hv:tyB t=true):(txP (tyP t)).length≤100:=by
 obtain⟨b,n,hb,hn,ht⟩:=g3K hv
 have l1:=(e7U b (by omega)).1
 have l2:=(e7U n (by omega)).1
 have l3:(arT n).length≤40:=by
  unfold arT
  split
  ·simp only[g7L,g7K,g7O];omega
  ·exact g9A _
 rcases ht with rfl|rfl|rfl
 ·rw[g3M];simp only[g7L,g7K,g7O];omega
 ·rw[g3N];simp only[g7L,g7K,g7O];omega
 ·rw[g3O];simp only[g7L,g7K,g7O];omega
end Go.Proofs.YtcbgiabippcpaaaGreatDoor

/- Statements are written. -/
namespace Go.Proofs.YtcbgiabippcpaaaGreatDoor
open Go.Pi Go.Lx Go.Ky
variable {gl:Nat→Option (List T)}
def WrS (gl:Nat→Option (List T)) (x:St):Prop:=∀ (id:Nat) (s:List UInt8) (sg:Sg) (ow:Ow),Bw sg ow id s→s.length+(txP (stP x)).length≤1000000 →
 CallE F gl 46 [.lp id 0,.t (.agg (tSt x))] sg ow fun v sg' ow'=>Bw sg' ow' id (s++txP (stP x))∧Fr id sg sg'
theorem g3R (x:St) (r:List St):txP (f7S (x::r))=txP (stP x)++(32::txP (f7S r)):=by
 rw[f7S,f6C,f6E]
theorem g3S {id:Nat} {nl:Bool} {l:List St} (hl:l.length≤B47) (hw:∀ e,e∈l→WrS gl e) {sg0:Sg} (Q:Ex→S→Prop):∀ (r:List St) (i:Nat) (fr:List PV) (sg:Sg) (ow:Ow) (s:List UInt8),l.drop i=r→Fr id sg0 sg→Bw sg ow id s →
  s.length+(txP (f7S r)).length≤1000000→b8Y fr [(0,.lp id 0),(6,.t (.sl nl (d2P l))),(7,.t (.int .i64 l.length)),(8,.t (.int .i64 i))] →
  (∀ fr' sg' ow',Bw sg' ow' id (s++txP (f7S r))→Fr id sg0 sg'→Q (.exit 0) ⟨fr',sg',ow'⟩) →
  Xl F gl c6V ⟨fr,sg,ow⟩ Q ⟨⟩:=by
 intro r
 induction r with
 |nil =>
  intro i fr sg ow s hd hg hb hlen hf k
  have hd:=b8T hd
  simp only[b9A,b8Z] at hf
  obtain⟨f0,f6,f7,f8,-⟩:=hf
  refine Xl.step ?_
  simp only[c6V]
  have c1:¬((i:Int) < (l.length:Int)):=by omega
  simp only[wA,seval,reduceCtorEq,reduceIte,f0,f6,f7,f8,c1]
  exact k _ _ _ (by rw[show txP (f7S [])=[] from rfl,g6J];exact hb) hg
 |cons x r ih =>
  intro i fr sg ow s hd hg hb hlen hf k
  obtain⟨hx,hr,hi⟩:=b8S hd
  simp only[b9A,b8Z] at hf
  obtain⟨f0,f6,f7,f8,-⟩:=hf
  refine Xl.step ?_
  simp only[c6V]
  have c1:(i:Int) < (l.length:Int):=by omega
  have hw1:=d5C hi (show l.length≤281474976710656 by have:B47=140737488355328:=rfl;omega)
  have hc:=hw x (g8B hx) id
  simp only[d2R] at hc
  rw[g3R] at hlen k
  simp only[g7K,g7L] at hlen
  simp only[wA,seval,reduceCtorEq,reduceIte,f0,f6,f7,f8,c1,d2T,hx,g9F,d2R,g6D]
  refine CallE.mono (hc _ _ _ (hb.fr (Grow.app _ _)) (by omega)) ?_
  rintro v2 sg2 ow2 ⟨hb2,hf2⟩
  simp only[wA,seval,reduceCtorEq,reduceIte,f0,f6,f7,f8]
  refine CallE.mono (g2C hb2 (by simp only[g7K,g7L,g7O];omega)) ?_
  rintro v3 sg3 ow3 ⟨hb3,hf3⟩
  simp only[wA,seval,reduceCtorEq,reduceIte,f0,f6,f7,f8,hw1]
  refine ih (i+1) _ _ _ _ hr (hg.trans ((Fr.of (Grow.app _ _)).trans (hf2.trans hf3))) hb3 (by simp only[g7K,g7L,g7O];omega) (by simp only[wQ,Nat.reduceEqDiff,reduceIte,f0,f6,f7]) fun fr' sg' ow' h1 h2=>k _ _ _ ?_ h2
  simpa only [g6H,g6L,g8F] using h1
theorem ok79 {id:Nat} {nl:Bool} {l:List St} (hl:l.length≤B47) (hw:∀ e,e∈l→WrS gl e) {s:List UInt8} {sg:Sg} {ow:Ow} (hb:Bw sg ow id s) (hlen:s.length+(txP (f7S l)).length≤1000000) :
  CallE F gl 79 [.lp id 0,.t (.sl nl (d2P l))] sg ow fun v sg' ow'=>Bw sg' ow' id (s++txP (f7S l))∧Fr id sg sg':=by
 refine XcE.of F79 rfl ?_
 simp only[c6W]
 simp only[wA,seval,reduceCtorEq,reduceIte,d2S]
 refine g3S hl hw (sg0:=sg) _ l 0 _ _ _ s rfl (Fr.refl _ _) hb hlen (by simp only[wQ,Nat.reduceEqDiff,reduceIte];exact rfl) ?_
 intro fr' sg' ow' h1 h2
 simp only[wA,seval,reduceCtorEq,reduceIte]
 exact⟨h1,h2⟩
theorem g3T (x:St) (k:x.kind=1):txP (stP x)=([108,101,116,32]++x.name)++(txP (tyO x.typed x.ty)++([32,61,32]++(txP (f3I 1 (ar x.ex))++[59]))):=by
 rw[f7T,k,stO,if_pos rfl,f6D,f6E,f6D,f6C,f6E,f6D,f6E,f6C]
 show[108,101,116]++(32::(x.name++(_++(32::([61]++(32::(_++[59])))))))=_
 simp
theorem g3U (x:St) (k:x.kind=2):txP (stP x)=[97,115,115,101,114,116,32]++(txP (f3I 1 (ar x.ex))++[59]):=by
 rw[f7T,k,stO,if_neg (by decide),if_pos rfl,f6D,f6E,f6C]
 rfl
theorem g3V (x:St) (k:x.kind=3):txP (stP x)=([102,111,114,32]++(x.name++([32,105,110,32]++(Lib.decDigits x.lo.toNat++([46,46]++(Lib.decDigits x.hi.toNat++[32,123,32]))))))++(txP (f7S x.body)++[125]):=by
 rw[f7T,k,stO,if_neg (by decide),if_neg (by decide),f6D,f6E,f6D,f6E,f6D,f6E,f6D,f6D,f6D,f6E,f6D,f6E,f6C]
 show[102,111,114]++(32::(x.name++(32::([105,110]++(32::(d1M x.lo.toNat++([46,46]++(d1M x.hi.toNat++(32::([123]++(32::(_++[125]))))))))))))=_
 rw[g2F,g2F]
 simp
set_option maxHeartbeats 1000000 in
theorem g3W (h2:gl 1=some (p10.map (T.int .u64))) {x:St} (k1:x.kind=1) (hn:x.name.length≤B47) (hv:stB x=true) (he:WrE gl x.ex):WrS gl x:=by
 intro id s sg ow hk hlen
 rw[d4B,if_pos k1] at hv
 simp only[g5U] at hv
 have ht0:=hv.1.1.1.1.1
 have wa:=g2O x.ex he 1 (by omega) id
 rw[g3T x k1] at hlen ⊢
 simp only[g7K,g7L,g7O] at hlen
 have e47:B47=140737488355328:=rfl
 have hid:=hk.lt
 refine XcE.of F46 rfl ?_
 simp only[c5M]
 cases hty:x.typed with
 |true =>
  have hT:tyB x.ty=true:=by rw[hty] at ht0;simpa using ht0
  have tt:=fun K=>g3P (gl:=gl) h2 hT (K:=K)
  have tl:=g3Q hT
  have eo:txP (tyO true x.ty)=[58,32]++txP (tyP x.ty):=by
   unfold tyO
   rw[if_pos rfl,f6D,f6E]
   rfl
  rw[hty,eo] at hlen
  rw[eo]
  simp only[g7K,g7L,g7O] at hlen
  simp only[wA,seval,reduceCtorEq,reduceIte,d2R,k1,hty]
  repeat' (first|((with_reducible first|refine c3G ?_ ?_|refine c3H ?_ ?_|refine c3F ?_ ?_|refine c3E ?_ ?_|refine c3C ?_ ?_|refine c3D ?_ ?_|refine c3B ?_ ?_|refine c3A ?_ ?_) <;> intro h <;> (try simp only[wA,seval,reduceCtorEq,reduceIte,d2R,k1,hty,h]))|((with_reducible refine g3E (by first|omega|(simp only[g7K,g7L,g7O];omega)) ?_);(try simp only[wA,seval,reduceCtorEq,reduceIte,d2R,k1,hty])))
  refine CallE.mono (g2C (g2L hk _) (by simp only[g7K,g7L,g7O];omega)) ?_
  rintro v1 sg1 ow1 ⟨k1',f1⟩
  have z1:=g2N f1 hid
  simp only[wA,seval,reduceCtorEq,reduceIte,z1,hty,tt]
  repeat' (first|((with_reducible first|refine c3G ?_ ?_|refine c3H ?_ ?_|refine c3F ?_ ?_|refine c3E ?_ ?_|refine c3C ?_ ?_|refine c3D ?_ ?_|refine c3B ?_ ?_|refine c3A ?_ ?_) <;> intro h <;> (try simp only[wA,seval,reduceCtorEq,reduceIte,z1,hty,tt,h]))|((with_reducible refine g3E (by first|omega|(simp only[g7K,g7L,g7O];omega)) ?_);(try simp only[wA,seval,reduceCtorEq,reduceIte,z1,hty,tt])))
  refine CallE.mono (g2C k1' (by simp only[g7K,g7L,g7O];omega)) ?_
  rintro v2 sg2 ow2 ⟨k2',f2⟩
  have z2:=g2N (f1.trans f2) hid
  simp only[wA,seval,reduceCtorEq,reduceIte,z2]
  refine CallE.mono (g2C k2' (by simp only[g7K,g7L,g7O];omega)) ?_
  rintro v3 sg3 ow3 ⟨k3',f3⟩
  have z3:=g2N ((f1.trans f2).trans f3) hid
  simp only[wA,seval,reduceCtorEq,reduceIte,z3]
  refine CallE.mono (wa _ _ _ k3' (by simp only[g7K,g7L,g7O];omega)) ?_
  rintro v4 sg4 ow4 ⟨k4',f4⟩
  simp only[wA,seval,reduceCtorEq,reduceIte]
  refine CallE.mono (g2C k4' (by simp only[g7K,g7L,g7O];omega)) ?_
  rintro v5 sg5 ow5 ⟨k5',f5⟩
  simp only[wA,seval,reduceCtorEq,reduceIte]
  exact⟨by simpa using k5',g2M ((((f1.trans f2).trans f3).trans f4).trans f5)⟩
 |false =>
  have eo:txP (tyO false x.ty)=[]:=rfl
  rw[hty,eo] at hlen
  rw[eo]
  simp only[g7O] at hlen
  simp only[wA,seval,reduceCtorEq,reduceIte,d2R,k1,hty]
  repeat' (first|((with_reducible first|refine c3G ?_ ?_|refine c3H ?_ ?_|refine c3F ?_ ?_|refine c3E ?_ ?_|refine c3C ?_ ?_|refine c3D ?_ ?_|refine c3B ?_ ?_|refine c3A ?_ ?_) <;> intro h <;> (try simp only[wA,seval,reduceCtorEq,reduceIte,d2R,k1,hty,h]))|((with_reducible refine g3E (by first|omega|(simp only[g7K,g7L,g7O];omega)) ?_);(try simp only[wA,seval,reduceCtorEq,reduceIte,d2R,k1,hty])))
  refine CallE.mono (g2C (g2L hk _) (by simp only[g7K,g7L,g7O];omega)) ?_
  rintro v1 sg1 ow1 ⟨k1',f1⟩
  have z1:=g2N f1 hid
  simp only[wA,seval,reduceCtorEq,reduceIte,z1,hty]
  refine CallE.mono (g2C k1' (by simp only[g7K,g7L,g7O];omega)) ?_
  rintro v3 sg3 ow3 ⟨k3',f3⟩
  have z3:=g2N (f1.trans f3) hid
  simp only[wA,seval,reduceCtorEq,reduceIte,z3]
  refine CallE.mono (wa _ _ _ k3' (by simp only[g7K,g7L,g7O];omega)) ?_
  rintro v4 sg4 ow4 ⟨k4',f4⟩
  simp only[wA,seval,reduceCtorEq,reduceIte]
  refine CallE.mono (g2C k4' (by simp only[g7K,g7L,g7O];omega)) ?_
  rintro v5 sg5 ow5 ⟨k5',f5⟩
  simp only[wA,seval,reduceCtorEq,reduceIte]
  exact⟨by simpa using k5',g2M (((f1.trans f3).trans f4).trans f5)⟩
theorem g3X {x:St} (k1:x.kind=2) (he:WrE gl x.ex):WrS gl x:=by
 intro id s sg ow hk hlen
 have wa:=g2O x.ex he 1 (by omega) id
 rw[g3U x k1] at hlen ⊢
 simp only[g7K,g7L,g7O] at hlen
 have hid:=hk.lt
 refine XcE.of F46 rfl ?_
 simp only[c5M]
 simp only[wA,seval,reduceCtorEq,reduceIte,d2R,k1]
 refine CallE.mono (g2C (g2L hk _) (by simp only[g7K,g7L,g7O];omega)) ?_
 rintro v1 sg1 ow1 ⟨k1',f1⟩
 have z1:=g2N f1 hid
 simp only[wA,seval,reduceCtorEq,reduceIte,z1]
 refine CallE.mono (wa _ _ _ k1' (by simp only[g7K,g7L,g7O];omega)) ?_
 rintro v4 sg4 ow4 ⟨k4',f4⟩
 simp only[wA,seval,reduceCtorEq,reduceIte]
 refine CallE.mono (g2C k4' (by simp only[g7K,g7L,g7O];omega)) ?_
 rintro v5 sg5 ow5 ⟨k5',f5⟩
 simp only[wA,seval,reduceCtorEq,reduceIte]
 exact⟨by simpa using k5',g2M ((f1.trans f4).trans f5)⟩
theorem g3Y {n:Int} (h:d3X n=true):n=((n.toNat:Nat):Int)∧n.toNat≤1000000:=by
 unfold d3X at h
 simp only[g5U,g9N] at h
 omega
set_option maxHeartbeats 1000000 in
theorem g3Z (h2:gl 1=some (p10.map (T.int .u64))) {x:St} (k1:x.kind=3) (hn:x.name.length≤B47) (hbl:x.body.length≤B47) (hv:stB x=true) (he:∀ a,a∈x.body→WrS gl a):WrS gl x:=by
 intro id s sg ow hk hlen
 rw[d4B,if_neg (by omega),if_neg (by omega),if_pos k1] at hv
 simp only[g5U] at hv
 obtain⟨a1,a2⟩:=g3Y hv.1.1.2
 obtain⟨b1,b2⟩:=g3Y hv.1.2
 rw[g3V x k1] at hlen ⊢
 simp only[g7K,g7L,g7O] at hlen
 generalize x.lo.toNat=lo at *
 generalize x.hi.toNat=hi at *
 have l1:=(e7U lo (by omega)).1
 have l2:=(e7U hi (by omega)).1
 have I1:=fun K=>g3J (gl:=gl) h2 (u:=lo) (by omega) (K:=K)
 have I2:=fun K=>g3J (gl:=gl) h2 (u:=hi) (by omega) (K:=K)
 have e47:B47=140737488355328:=rfl
 have hid:=hk.lt
 refine XcE.of F46 rfl ?_
 simp only[c5M]
 simp only[wA,seval,reduceCtorEq,reduceIte,d2R,k1,a1,b1,I1,I2,g6H,g6L,g8F]
 repeat' (first|((with_reducible first|refine c3G ?_ ?_|refine c3H ?_ ?_|refine c3F ?_ ?_|refine c3E ?_ ?_|refine c3C ?_ ?_|refine c3D ?_ ?_|refine c3B ?_ ?_|refine c3A ?_ ?_) <;> intro h <;> (try simp only[wA,seval,reduceCtorEq,reduceIte,d2R,k1,a1,b1,I1,I2,g6H,g6L,g8F,h]))|((with_reducible refine g3E (by first|omega|(simp only[g7K,g7L,g7O];omega)) ?_);(try simp only[wA,seval,reduceCtorEq,reduceIte,d2R,k1,a1,b1,I1,I2,g6H,g6L,g8F])))
 refine CallE.mono (g2C (g2L hk _) (by simp only[g7K,g7L,g7O];omega)) ?_
 rintro v1 sg1 ow1 ⟨k1',f1⟩
 have z1:=g2N f1 hid
 simp only[wA,seval,reduceCtorEq,reduceIte,z1]
 refine CallE.mono (ok79 hbl he k1' (by simp only[g7K,g7L,g7O];omega)) ?_
 rintro v4 sg4 ow4 ⟨k4',f4⟩
 simp only[wA,seval,reduceCtorEq,reduceIte]
 refine CallE.mono (g2C k4' (by simp only[g7K,g7L,g7O];omega)) ?_
 rintro v5 sg5 ow5 ⟨k5',f5⟩
 simp only[wA,seval,reduceCtorEq,reduceIte]
 exact⟨by simpa using k5',g2M ((f1.trans f4).trans f5)⟩
theorem g4A (h2:gl 1=some (p10.map (T.int .u64))):∀ x:St,stB x=true→StOk x→WrS gl x:=by
 refine St.ind fun x ih hv ho=>?_
 cases ho with|mk _ h1 h2' h3 h4 h5 h6 h7 h8 h =>
 have hv':=hv
 rw[d4B] at hv'
 by_cases k1:x.kind=1
 ·rw[if_pos k1] at hv'
  simp only[g5U] at hv'
  exact g3W h2 k1 h2' hv (g2Y h2 x.ex hv'.1.1.1.2 h4)
 ·rw[if_neg k1] at hv'
  by_cases k2:x.kind=2
  ·rw[if_pos k2] at hv'
   simp only[g5U] at hv'
   exact g3X k2 (g2Y h2 x.ex hv'.1.1.1.2 h4)
  ·rw[if_neg k2] at hv'
   by_cases k3:x.kind=3
   ·rw[if_pos k3] at hv'
    simp only[g5U,g6F] at hv'
    exact g3Z h2 k3 h2' h7 hv fun a ha=>ih a ha (hv'.2 a ha) (h a ha)
   ·rw[if_neg k3] at hv';cases hv'
end Go.Proofs.YtcbgiabippcpaaaGreatDoor

/- Functions are written. -/
namespace Go.Proofs.YtcbgiabippcpaaaGreatDoor
open Go.Pi Go.Lx Go.Ky
variable {gl:Nat→Option (List T)}
def g4B:Nat→List Pa→List UInt8
 |_,[]=>[]
 |i,e::r=>(if 0 < i then [44,32] else [])++(txP (paP e)++g4B (i+1) r)
theorem g4C (i:Nat) (l:List Pa):g4B (i+1) l=(l.map paP).flatMap fun a=>44::32::txP a:=by
 induction l generalizing i with
 |nil=>rfl
 |cons e r ih =>
  rw[g4B,if_pos (by omega),ih,g7T,g6Q]
  simp
theorem g4D (l:List Pa):g4B 0 l=txP (f3J (l.map paP)):=by
 cases l with
 |nil=>rfl
 |cons e r =>
  rw[g4B,if_neg (by omega),g4C,g7T,f3J,f6C,g8F]
  congr 1
  induction r with
  |nil=>rfl
  |cons x r ih=>rw[g7T,g6Q,g6Q,f6C,←ih];rfl
theorem g4E (p:Pa):txP (paP p)=(p.name++[58,32])++txP (tyP p.ty):=by
 unfold paP
 rw[f6D,f6D,f6E]
 show p.name++([58]++(32::_))=_
 simp
set_option maxHeartbeats 1000000 in
theorem g4F (h2:gl 1=some (p10.map (T.int .u64))) {id:Nat} {nl:Bool} {l:List Pa} (hl:l.length≤B47) (hv:∀ e,e∈l→tyB e.ty=true∧e.name.length≤B47) {sg0:Sg} {w3:PV} (Q:Ex→S→Prop):∀ (r:List Pa) (i:Nat) (fr:List PV) (sg:Sg) (ow:Ow) (s:List UInt8),l.drop i=r→Fr id sg0 sg→Bw sg ow id s →
  s.length+(g4B i r).length≤1000000→b8Y fr [(0,.lp id 0),(3,w3),(13,.t (.sl nl (l.map tPa))),(14,.t (.int .i64 l.length)),(15,.t (.int .i64 i))] →
  (∀ fr' sg' ow',Bw sg' ow' id (s++g4B i r)→Fr id sg0 sg'→b8Y fr' [(0,.lp id 0),(3,w3)]→Q (.exit 0) ⟨fr',sg',ow'⟩) →
  Xl F gl c5I ⟨fr,sg,ow⟩ Q ⟨⟩:=by
 intro r
 induction r with
 |nil =>
  intro i fr sg ow s hd hg hb hlen hf k
  have hd:=b8T hd
  simp only[b9A,b8Z] at hf
  obtain⟨f0,f3,f13,f14,f15,-⟩:=hf
  refine Xl.step ?_
  simp only[c5I]
  have c1:¬((i:Int) < (l.length:Int)):=by omega
  simp only[wA,seval,reduceCtorEq,reduceIte,f0,f13,f14,f15,c1]
  exact k _ _ _ (by rw[g4B,g6J];exact hb) hg (by simp only[wQ,Nat.reduceEqDiff,reduceIte,f0,f3])
 |cons x r ih =>
  intro i fr sg ow s hd hg hb hlen hf k
  obtain⟨hx,hr,hi⟩:=b8S hd
  simp only[b9A,b8Z] at hf
  obtain⟨f0,f3,f13,f14,f15,-⟩:=hf
  refine Xl.step ?_
  simp only[c5I]
  have e47:B47=140737488355328:=rfl
  have c1:(i:Int) < (l.length:Int):=by omega
  have hw1:=d5C hi (show l.length≤281474976710656 by omega)
  obtain⟨hT,hN⟩:=hv x (g8B hx)
  have tt:=fun K=>g3P (gl:=gl) h2 hT (K:=K)
  have tl:=g3Q hT
  have hid:=hb.lt
  rw[g4B,g4E] at hlen k
  simp only[g7K,g7L,g7O] at hlen
  by_cases c2:(0:Int) < (i:Int)
  ·have hi0:0 < i:=by omega
   rw[if_pos hi0] at hlen k
   simp only[g7L,g7O] at hlen
   simp only[wA,seval,reduceCtorEq,reduceIte,f0,f13,f14,f15,c1,c2,g7C,hx,g9F,g6D]
   refine CallE.mono (g2C (hb.fr (Grow.app _ _)) (by simp only[g7L,g7O];omega)) ?_
   rintro v sg1 ow1 ⟨hb1,hf1⟩
   have z5:=hf1.get (i:=sg.length) (by simp;rfl) (by omega)
   simp only[wA,seval,reduceCtorEq,reduceIte,f0,f13,f14,f15,z5,tt]
   repeat' (first|((with_reducible first|refine c3G ?_ ?_|refine c3H ?_ ?_|refine c3F ?_ ?_|refine c3E ?_ ?_|refine c3C ?_ ?_|refine c3D ?_ ?_|refine c3B ?_ ?_|refine c3A ?_ ?_) <;> intro h <;> (try simp only[wA,seval,reduceCtorEq,reduceIte,f0,f13,f14,f15,z5,tt,h]))|((with_reducible refine g3E (by first|omega|(simp only[g7K,g7L,g7O];omega)) ?_);(try simp only[wA,seval,reduceCtorEq,reduceIte,f0,f13,f14,f15,z5,tt])))
   refine CallE.mono (g2C hb1 (by simp only[g7K,g7L,g7O];omega)) ?_
   rintro v2 sg2 ow2 ⟨hb2,hf2⟩
   simp only[wA,seval,reduceCtorEq,reduceIte,f0,f13,f14,f15,hw1]
   refine ih (i+1) _ _ _ _ hr (hg.trans ((Fr.of (Grow.app _ _)).trans (hf1.trans hf2))) hb2 (by simp only[g7K,g7L,g7O];omega) (by simp only[wQ,Nat.reduceEqDiff,reduceIte,f0,f3,f13,f14]) fun fr' sg' ow' h1 h2 h3=>k _ _ _ ?_ h2 h3
   simpa only [g6H,g6L,g8F] using h1
  ·have hi0:¬0 < i:=by omega
   rw[if_neg hi0] at hlen k
   simp only[g7O] at hlen
   simp only[wA,seval,reduceCtorEq,reduceIte,f0,f13,f14,f15,c1,c2,g7C,hx,g9F,g6D,tt]
   repeat' (first|((with_reducible first|refine c3G ?_ ?_|refine c3H ?_ ?_|refine c3F ?_ ?_|refine c3E ?_ ?_|refine c3C ?_ ?_|refine c3D ?_ ?_|refine c3B ?_ ?_|refine c3A ?_ ?_) <;> intro h <;> (try simp only[wA,seval,reduceCtorEq,reduceIte,f0,f13,f14,f15,c1,c2,g7C,hx,g9F,g6D,tt,h]))|((with_reducible refine g3E (by first|omega|(simp only[g7K,g7L,g7O];omega)) ?_);(try simp only[wA,seval,reduceCtorEq,reduceIte,f0,f13,f14,f15,c1,c2,g7C,hx,g9F,g6D,tt])))
   refine CallE.mono (g2C (hb.fr (Grow.app _ _)) (by simp only[g7K,g7L,g7O];omega)) ?_
   rintro v2 sg2 ow2 ⟨hb2,hf2⟩
   simp only[wA,seval,reduceCtorEq,reduceIte,f0,f13,f14,f15,hw1]
   refine ih (i+1) _ _ _ _ hr (hg.trans ((Fr.of (Grow.app _ _)).trans hf2)) hb2 (by simp only[g7K,g7L,g7O];omega) (by simp only[wQ,Nat.reduceEqDiff,reduceIte,f0,f3,f13,f14]) fun fr' sg' ow' h1 h2 h3=>k _ _ _ ?_ h2 h3
   simpa only [g6H,g6L,g8F] using h1
theorem g4G (f:Fu):txP (fnP f)=([102,110,32]++(f.name++[40]))++(txP (f3J (f.params.map paP))++(([41,58,32]++(txP (tyP f.res)++[32,123,32]))++(txP (f7S f.body)++([114,101,116,117,114,110,32]++(txP (f3I 1 (ar f.ret))++[59,32,125]))))):=by
 unfold fnP
 simp only[f6D,f6E,f6C]
 show[102,110]++(32::(f.name++([40]++(_++([41]++([58]++(32::(_++(32::([123]++(32::(_++([114,101,116,117,114,110]++(32::(_++[59,32,125])))))))))))))))=_
 simp
set_option maxHeartbeats 2000000 in
theorem ok43 (h2:gl 1=some (p10.map (T.int .u64))) {f:Fu} (hv:fuB f=true) (ho:FuOk f) {id:Nat} {s:List UInt8} {sg:Sg} {ow:Ow} (hk:Bw sg ow id s) (hlen:s.length+(txP (fnP f)).length≤1000000) :
  CallE F gl 43 [.lp id 0,.t (.agg (tFu f))] sg ow fun v sg' ow'=>Bw sg' ow' id (s++txP (fnP f))∧Fr id sg sg':=by
 unfold fuB at hv
 simp only[g5U,g6F] at hv
 obtain⟨⟨⟨⟨-,hp⟩,hT⟩,hb⟩,he⟩:=hv
 have tt:=fun K=>g3P (gl:=gl) h2 hT (K:=K)
 have tl:=g3Q hT
 have wa:=g2O f.ret (g2Y h2 f.ret he ho.ret) 1 (by omega) id
 have e47:B47=140737488355328:=rfl
 have hnm:=ho.name
 have hpl:=ho.pl
 have hbl:=ho.bl
 rw[g4G] at hlen ⊢
 simp only[g7K,g7L,g7O] at hlen
 have hid:=hk.lt
 refine XcE.of F43 rfl ?_
 simp only[c5J]
 simp only[wA,seval,reduceCtorEq,reduceIte,g6L,g8F]
 repeat' (first|((with_reducible first|refine c3G ?_ ?_|refine c3H ?_ ?_|refine c3F ?_ ?_|refine c3E ?_ ?_|refine c3C ?_ ?_|refine c3D ?_ ?_|refine c3B ?_ ?_|refine c3A ?_ ?_) <;> intro h <;> (try simp only[wA,seval,reduceCtorEq,reduceIte,g6L,g8F,h]))|((with_reducible refine g3E (by first|omega|(simp only[g7K,g7L,g7O];omega)) ?_);(try simp only[wA,seval,reduceCtorEq,reduceIte,g6L,g8F])))
 refine CallE.mono (g2C (g2L hk _) (by simp only[g7K,g7L,g7O];omega)) ?_
 rintro v1 sg1 ow1 ⟨k1,f1⟩
 have z1:=g2N f1 hid
 simp only[wA,seval,reduceCtorEq,reduceIte,z1,g7N]
 refine g4F h2 ho.pl (fun e h=>by
  have:=hp e h
  unfold paB at this
  rw[g5U] at this
  exact⟨this.2,(ho.pa e h).1⟩) (sg0:=sg1) (w3:=.lp sg.length 0) _ f.params 0 _ _ _ _ rfl (Fr.refl _ _) k1 (by rw[g4D];simp only[g7K,g7L,g7O];omega) (by simp only[wQ,Nat.reduceEqDiff,reduceIte];exact rfl) ?_
 intro fr' sg2 ow2 k2 f2 hf
 rw[g4D] at k2
 simp only[b9A,b8Z] at hf
 obtain⟨q0,q3,-⟩:=hf
 have z2:=g2N (f1.trans f2) hid
 simp only[wA,seval,reduceCtorEq,reduceIte,q0,q3,z2,tt,g6L,g8F,g6H]
 repeat' (first|((with_reducible first|refine c3G ?_ ?_|refine c3H ?_ ?_|refine c3F ?_ ?_|refine c3E ?_ ?_|refine c3C ?_ ?_|refine c3D ?_ ?_|refine c3B ?_ ?_|refine c3A ?_ ?_) <;> intro h <;> (try simp only[wA,seval,reduceCtorEq,reduceIte,q0,q3,z2,tt,g6L,g8F,g6H,h]))|((with_reducible refine g3E (by first|omega|(simp only[g7K,g7L,g7O];omega)) ?_);(try simp only[wA,seval,reduceCtorEq,reduceIte,q0,q3,z2,tt,g6L,g8F,g6H])))
 refine CallE.mono (g2C k2 (by simp only[g7K,g7L,g7O];omega)) ?_
 rintro v3 sg3 ow3 ⟨k3,f3⟩
 have z3:=g2N ((f1.trans f2).trans f3) hid
 simp only[wA,seval,reduceCtorEq,reduceIte,q0,q3,z3]
 refine CallE.mono (ok79 ho.bl (fun a ha=>g4A h2 a (hb a ha) (ho.bo a ha)) k3 (by simp only[g7K,g7L,g7O];omega)) ?_
 rintro v4 sg4 ow4 ⟨k4,f4⟩
 have z4:=g2N (((f1.trans f2).trans f3).trans f4) hid
 simp only[wA,seval,reduceCtorEq,reduceIte,q0,q3,z4]
 refine CallE.mono (g2C k4 (by simp only[g7K,g7L,g7O];omega)) ?_
 rintro v5 sg5 ow5 ⟨k5,f5⟩
 have z5:=g2N ((((f1.trans f2).trans f3).trans f4).trans f5) hid
 simp only[wA,seval,reduceCtorEq,reduceIte,q0,q3,z5]
 refine CallE.mono (wa _ _ _ k5 (by simp only[g7K,g7L,g7O];omega)) ?_
 rintro v6 sg6 ow6 ⟨k6,f6⟩
 simp only[wA,seval,reduceCtorEq,reduceIte,q0,q3]
 refine CallE.mono (g2C k6 (by simp only[g7K,g7L,g7O];omega)) ?_
 rintro v7 sg7 ow7 ⟨k7,f7⟩
 simp only[wA,seval,reduceCtorEq,reduceIte]
 exact⟨by simpa using k7,g2M ((((((f1.trans f2).trans f3).trans f4).trans f5).trans f6).trans f7)⟩
end Go.Proofs.YtcbgiabippcpaaaGreatDoor

/- Programs are formatted. -/
namespace Go.Proofs.YtcbgiabippcpaaaGreatDoor
open Go.Pi Go.Lx Go.Ky
variable {gl:Nat→Option (List T)}
theorem g4H (a:List Pc) (r:List (List Pc)):lnT (a::r)=txP a++(10::lnT r):=by
 unfold lnT
 rw[g6Q]
 simp
theorem g4I (h2:gl 1=some (p10.map (T.int .u64))) {id:Nat} {nl:Bool} {l:List Fu} (hl:l.length≤B47) (hv:∀ e,e∈l→fuB e=true∧FuOk e) {sg0:Sg} {w1:PV} (Q:Ex→S→Prop):∀ (r:List Fu) (i:Nat) (fr:List PV) (sg:Sg) (ow:Ow) (s:List UInt8),l.drop i=r→Fr id sg0 sg→Bw sg ow id s →
  s.length+(lnT (r.map fnP)).length≤1000000→b8Y fr [(1,w1),(5,.lp id 0),(18,.t (.sl nl (l.map tFu))),(19,.t (.int .i64 l.length)),(20,.t (.int .i64 i))] →
  (∀ fr' sg' ow',Bw sg' ow' id (s++lnT (r.map fnP))→Fr id sg0 sg'→b8Y fr' [(1,w1),(5,.lp id 0)]→Q (.exit 0) ⟨fr',sg',ow'⟩) →
  Xl F gl c4D ⟨fr,sg,ow⟩ Q ⟨⟩:=by
 intro r
 induction r with
 |nil =>
  intro i fr sg ow s hd hg hb hlen hf k
  have hd:=b8T hd
  simp only[b9A,b8Z] at hf
  obtain⟨f1,f5,f18,f19,f20,-⟩:=hf
  refine Xl.step ?_
  simp only[c4D]
  have c1:¬((i:Int) < (l.length:Int)):=by omega
  simp only[wA,seval,reduceCtorEq,reduceIte,f5,f18,f19,f20,c1]
  exact k _ _ _ (by rw[g7U,show lnT []=[] from rfl,g6J];exact hb) hg (by simp only[wQ,Nat.reduceEqDiff,reduceIte,f1,f5])
 |cons x r ih =>
  intro i fr sg ow s hd hg hb hlen hf k
  obtain⟨hx,hr,hi⟩:=b8S hd
  simp only[b9A,b8Z] at hf
  obtain⟨f1,f5,f18,f19,f20,-⟩:=hf
  refine Xl.step ?_
  simp only[c4D]
  have c1:(i:Int) < (l.length:Int):=by omega
  have hw1:=d5C hi (show l.length≤281474976710656 by have:B47=140737488355328:=rfl;omega)
  obtain⟨hF,hO⟩:=hv x (g8B hx)
  rw[g7T,g4H] at hlen k
  simp only[g7K,g7L] at hlen
  simp only[wA,seval,reduceCtorEq,reduceIte,f5,f18,f19,f20,c1,g7C,hx,g9F,g6D]
  refine CallE.mono (ok43 h2 hF hO (hb.fr (Grow.app _ _)) (by omega)) ?_
  rintro v2 sg2 ow2 ⟨hb2,hf2⟩
  simp only[wA,seval,reduceCtorEq,reduceIte,f5,f18,f19,f20]
  refine CallE.mono (g2C hb2 (by simp only[g7K,g7L,g7O];omega)) ?_
  rintro v3 sg3 ow3 ⟨hb3,hf3⟩
  simp only[wA,seval,reduceCtorEq,reduceIte,f5,f18,f19,f20,hw1]
  refine ih (i+1) _ _ _ _ hr (hg.trans ((Fr.of (Grow.app _ _)).trans (hf2.trans hf3))) hb3 (by simp only[g7K,g7L,g7O];omega) (by simp only[wQ,Nat.reduceEqDiff,reduceIte,f1,f5,f18,f19]) fun fr' sg' ow' h1 h2 h3=>k _ _ _ ?_ h2 h3
  simpa only [g6H,g6L,g8F] using h1
theorem g4J (h2:gl 1=some (p10.map (T.int .u64))) {id:Nat} {nl:Bool} {l:List St} (hl:l.length≤B47) (hv:∀ e,e∈l→stB e=true∧StOk e) {sg0:Sg} {w1:PV} (Q:Ex→S→Prop):∀ (r:List St) (i:Nat) (fr:List PV) (sg:Sg) (ow:Ow) (s:List UInt8),l.drop i=r→Fr id sg0 sg→Bw sg ow id s →
  s.length+(lnT (r.map stP)).length≤1000000→b8Y fr [(1,w1),(5,.lp id 0),(50,.t (.sl nl (d2P l))),(51,.t (.int .i64 l.length)),(52,.t (.int .i64 i))] →
  (∀ fr' sg' ow',Bw sg' ow' id (s++lnT (r.map stP))→Fr id sg0 sg'→b8Y fr' [(1,w1),(5,.lp id 0)]→Q (.exit 4) ⟨fr',sg',ow'⟩) →
  Xl F gl c4B ⟨fr,sg,ow⟩ Q ⟨⟩:=by
 intro r
 induction r with
 |nil =>
  intro i fr sg ow s hd hg hb hlen hf k
  have hd:=b8T hd
  simp only[b9A,b8Z] at hf
  obtain⟨f1,f5,f18,f19,f20,-⟩:=hf
  refine Xl.step ?_
  simp only[c4B]
  have c1:¬((i:Int) < (l.length:Int)):=by omega
  simp only[wA,seval,reduceCtorEq,reduceIte,f5,f18,f19,f20,c1]
  exact k _ _ _ (by rw[g7U,show lnT []=[] from rfl,g6J];exact hb) hg (by simp only[wQ,Nat.reduceEqDiff,reduceIte,f1,f5])
 |cons x r ih =>
  intro i fr sg ow s hd hg hb hlen hf k
  obtain⟨hx,hr,hi⟩:=b8S hd
  simp only[b9A,b8Z] at hf
  obtain⟨f1,f5,f18,f19,f20,-⟩:=hf
  refine Xl.step ?_
  simp only[c4B]
  have c1:(i:Int) < (l.length:Int):=by omega
  have hw1:=d5C hi (show l.length≤281474976710656 by have:B47=140737488355328:=rfl;omega)
  obtain⟨hF,hO⟩:=hv x (g8B hx)
  have hc:=g4A h2 x hF hO id
  simp only[d2R] at hc
  rw[g7T,g4H] at hlen k
  simp only[g7K,g7L] at hlen
  simp only[wA,seval,reduceCtorEq,reduceIte,f5,f18,f19,f20,c1,d2T,hx,g9F,d2R,g6D]
  refine CallE.mono (hc _ _ _ (hb.fr (Grow.app _ _)) (by omega)) ?_
  rintro v2 sg2 ow2 ⟨hb2,hf2⟩
  simp only[wA,seval,reduceCtorEq,reduceIte,f5,f18,f19,f20]
  refine CallE.mono (g2C hb2 (by simp only[g7K,g7L,g7O];omega)) ?_
  rintro v3 sg3 ow3 ⟨hb3,hf3⟩
  simp only[wA,seval,reduceCtorEq,reduceIte,f5,f18,f19,f20,hw1]
  refine ih (i+1) _ _ _ _ hr (hg.trans ((Fr.of (Grow.app _ _)).trans (hf2.trans hf3))) hb3 (by simp only[g7K,g7L,g7O];omega) (by simp only[wQ,Nat.reduceEqDiff,reduceIte,f1,f5,f18,f19]) fun fr' sg' ow' h1 h2 h3=>k _ _ _ ?_ h2 h3
  simpa only [g6H,g6L,g8F] using h1
theorem g4K (d:De):txP (deP d)=(f8U d.pub++[32])++((d.name++[58,32])++(txP (tyP d.ty)++[59])):=by
 unfold deP
 simp only[f6D,f6E,f6C]
 show f8U d.pub++(32::(d.name++([58]++(32::(_++[59])))))=_
 simp
set_option maxHeartbeats 1000000 in
theorem g4L (h2:gl 1=some (p10.map (T.int .u64))) {id:Nat} {nl:Bool} {l:List De} (hl:l.length≤B47) (hv:∀ e,e∈l→deB e=true∧d2W e) {sg0:Sg} {w1:PV} (Q:Ex→S→Prop):∀ (r:List De) (i:Nat) (fr:List PV) (sg:Sg) (ow:Ow) (s:List UInt8),l.drop i=r→Fr id sg0 sg→Bw sg ow id s →
  s.length+(lnT (r.map deP)).length≤1000000→b8Y fr [(1,w1),(5,.lp id 0),(29,.t (.sl nl (l.map tDe))),(30,.t (.int .i64 l.length)),(31,.t (.int .i64 i))] →
  (∀ fr' sg' ow',Bw sg' ow' id (s++lnT (r.map deP))→Fr id sg0 sg'→b8Y fr' [(1,w1),(5,.lp id 0)]→Q (.exit 2) ⟨fr',sg',ow'⟩) →
  Xl F gl c4C ⟨fr,sg,ow⟩ Q ⟨⟩:=by
 intro r
 induction r with
 |nil =>
  intro i fr sg ow s hd hg hb hlen hf k
  have hd:=b8T hd
  simp only[b9A,b8Z] at hf
  obtain⟨f1,f5,f18,f19,f20,-⟩:=hf
  refine Xl.step ?_
  simp only[c4C]
  have c1:¬((i:Int) < (l.length:Int)):=by omega
  simp only[wA,seval,reduceCtorEq,reduceIte,f5,f18,f19,f20,c1]
  exact k _ _ _ (by rw[g7U,show lnT []=[] from rfl,g6J];exact hb) hg (by simp only[wQ,Nat.reduceEqDiff,reduceIte,f1,f5])
 |cons x r ih =>
  intro i fr sg ow s hd hg hb hlen hf k
  obtain⟨hx,hr,hi⟩:=b8S hd
  simp only[b9A,b8Z] at hf
  obtain⟨f1,f5,f18,f19,f20,-⟩:=hf
  refine Xl.step ?_
  simp only[c4C]
  have e47:B47=140737488355328:=rfl
  have c1:(i:Int) < (l.length:Int):=by omega
  have hw1:=d5C hi (show l.length≤281474976710656 by omega)
  obtain⟨hF,hO⟩:=hv x (g8B hx)
  unfold deB at hF
  rw[g5U] at hF
  have tt:=fun K=>g3P (gl:=gl) h2 hF.2 (K:=K)
  have tl:=g3Q hF.2
  have hN:=hO.1
  have hid:=hb.lt
  rw[g7T,g4H,g4K] at hlen k
  simp only[g7K,g7L,g7O] at hlen
  have fin:∀ (fr1:List PV) (sg1:Sg) (ow1:Ow),b8Y fr1 [(1,w1),(5,.lp id 0),(29,.t (.sl nl (l.map tDe))),(30,.t (.int .i64 l.length)),(31,.t (.int .i64 ((i+1:Nat):Int)))]→Fr id sg0 sg1→Bw sg1 ow1 id (s++((f8U x.pub++[32])++(x.name++(58::32::(txP (tyP x.ty)++[59,10])))))→Xl F gl c4C ⟨fr1,sg1,ow1⟩ Q ⟨⟩:=by
   intro fr1 sg1 ow1 hf1 hg1 hb1
   refine ih (i+1) _ _ _ _ hr hg1 hb1 (by simp only[g7K,g7L,g7O];omega) hf1 fun fr' sg' ow' h1 h2 h3=>k _ _ _ ?_ h2 h3
   simpa using h1
  cases hp:x.pub with
  |true =>
   have ep:f8U true=[112,117,98,108,105,99]:=rfl
   rw[hp,ep] at hlen fin
   simp only[g7L,g7O] at hlen
   simp only[wA,seval,reduceCtorEq,reduceIte,f5,f18,f19,f20,c1,g7C,hx,g9F,g6D,hp]
   refine CallE.mono (g2C (hb.fr (Grow.app _ _)) (by simp only[g7L,g7O];omega)) ?_
   rintro v sg1 ow1 ⟨hb1,hf1⟩
   have z5:=hf1.get (i:=sg.length) (by simp;rfl) (by omega)
   simp only[wA,seval,reduceCtorEq,reduceIte,f5,f18,f19,f20,z5,tt,g6H,g6L,g8F]
   repeat' (first|((with_reducible first|refine c3G ?_ ?_|refine c3H ?_ ?_|refine c3F ?_ ?_|refine c3E ?_ ?_|refine c3C ?_ ?_|refine c3D ?_ ?_|refine c3B ?_ ?_|refine c3A ?_ ?_) <;> intro h <;> (try simp only[wA,seval,reduceCtorEq,reduceIte,f5,f18,f19,f20,z5,tt,g6H,g6L,g8F,h]))|((with_reducible refine g3E (by first|omega|(simp only[g7K,g7L,g7O];omega)) ?_);(try simp only[wA,seval,reduceCtorEq,reduceIte,f5,f18,f19,f20,z5,tt,g6H,g6L,g8F])))
   refine CallE.mono (g2C hb1 (by simp only[g7K,g7L,g7O];omega)) ?_
   rintro v2 sg2 ow2 ⟨hb2,hf2⟩
   simp only[wA,seval,reduceCtorEq,reduceIte,f5,f18,f19,f20,hw1]
   exact fin _ _ _ (by simp only[wQ,Nat.reduceEqDiff,reduceIte,f1,f5,f18,f19]) (hg.trans ((Fr.of (Grow.app _ _)).trans (hf1.trans hf2))) (by simpa using hb2)
  |false =>
   have ep:f8U false=[115,101,99,114,101,116]:=rfl
   rw[hp,ep] at hlen fin
   simp only[g7L,g7O] at hlen
   simp only[wA,seval,reduceCtorEq,reduceIte,f5,f18,f19,f20,c1,g7C,hx,g9F,g6D,hp]
   refine CallE.mono (g2C (hb.fr (Grow.app _ _)) (by simp only[g7L,g7O];omega)) ?_
   rintro v sg1 ow1 ⟨hb1,hf1⟩
   have z5:=hf1.get (i:=sg.length) (by simp;rfl) (by omega)
   simp only[wA,seval,reduceCtorEq,reduceIte,f5,f18,f19,f20,z5,tt,g6H,g6L,g8F]
   repeat' (first|((with_reducible first|refine c3G ?_ ?_|refine c3H ?_ ?_|refine c3F ?_ ?_|refine c3E ?_ ?_|refine c3C ?_ ?_|refine c3D ?_ ?_|refine c3B ?_ ?_|refine c3A ?_ ?_) <;> intro h <;> (try simp only[wA,seval,reduceCtorEq,reduceIte,f5,f18,f19,f20,z5,tt,g6H,g6L,g8F,h]))|((with_reducible refine g3E (by first|omega|(simp only[g7K,g7L,g7O];omega)) ?_);(try simp only[wA,seval,reduceCtorEq,reduceIte,f5,f18,f19,f20,z5,tt,g6H,g6L,g8F])))
   refine CallE.mono (g2C hb1 (by simp only[g7K,g7L,g7O];omega)) ?_
   rintro v2 sg2 ow2 ⟨hb2,hf2⟩
   simp only[wA,seval,reduceCtorEq,reduceIte,f5,f18,f19,f20,hw1]
   exact fin _ _ _ (by simp only[wQ,Nat.reduceEqDiff,reduceIte,f1,f5,f18,f19]) (hg.trans ((Fr.of (Grow.app _ _)).trans (hf1.trans hf2))) (by simpa using hb2)
theorem g4M (s:List UInt8) {K:PV→Prop}:XcP F gl 38 [.str s] K ⟨⟩↔K (if 16384 < s.length then .tup [.t (.str []),.t (.int .i64 3)] else .tup [.t (.str s),.t (.int .i64 0)]):=by
 refine Ret.iff (Ret.of F38 rfl ?_)
 simp only[c5C]
 by_cases h:16384 < s.length
 ·have c:((s.length:Int) > 16384)=True:=g9P (by omega)
  rw[if_pos h]
  simp only[wA,seval,reduceCtorEq,reduceIte,c]
 ·have c:((s.length:Int) > 16384)=False:=g9O (by omega)
  rw[if_neg h]
  simp only[wA,seval,reduceCtorEq,reduceIte,c]
def g4N (p:Pg):PV:=if d4L p≠0 then .tup [.t (.str []),.t (.int .i64 (d4L p))] else if 16384 < (f9Z p).length then .tup [.t (.str []),.t (.int .i64 3)] else .tup [.t (.str (f9Z p)),.t (.int .i64 0)]
set_option maxHeartbeats 2000000 in
theorem ok16 (h2:gl 1=some (p10.map (T.int .u64))) {p:Pg} (ho:PgOk p) (hs:PgSz p) (hl:d4L p=0→(f9Z p).length≤1000000) {K:PV→Prop}:XcP F gl 16 [.agg (tPg p)] K ⟨⟩↔K (g4N p):=by
 have hV:=fun K=>ok42 (gl:=gl) p ho hs (K:=K)
 refine Ret.iff (Ret.of F16 rfl ?_)
 simp only[c4E]
 unfold g4N
 by_cases hv:d4L p=0
 ·have hlen:=hl hv
  have hv0:=hv
  rw[if_neg (fun h=>h hv)]
  rw[hv] at hV
  unfold d4L at hv0
  split at hv0
  ·cases hv0
  rename_i h1
  rw[Bool.not_eq_false] at h1
  simp only[g5U,g6F] at h1
  obtain⟨⟨a1,a2⟩,a3⟩:=h1
  have hL:=fun K=>g4M (gl:=gl) (f9Z p) (K:=K)
  obtain⟨a,b,hab⟩:∃ a b,(if 16384 < (f9Z p).length then PV.tup [.t (.str []),.t (.int .i64 3)] else .tup [.t (.str (f9Z p)),.t (.int .i64 0)])=.tup [.t (.str a),.t (.int .i64 b)]:=by
   by_cases h9:16384 < (f9Z p).length
   ·exact⟨_,_,if_pos h9⟩
   ·exact⟨_,_,if_neg h9⟩
  rw[hab] at ⊢
  simp only[hab] at hL
  have hfp:f9Z p=lnT (p.funcs.map fnP)++(lnT (p.decls.map deP)++lnT (p.body.map stP)):=by
   unfold f9Z lnP
   rw[f9X,f9X]
  have hlen':=hlen
  rw[hfp] at hlen'
  simp only[g7K] at hlen'
  have e47:B47=140737488355328:=rfl
  have b1:=ho.fl
  have b2:=ho.dl
  have b3:=ho.bl
  simp only[wA,seval,reduceCtorEq,reduceIte,hV,g7N]
  refine g4I h2 ho.fl (fun e h=>⟨a1 e h,ho.fo e h⟩) (id:=1) (w1:=.lp 0 0) (sg0:=[(false,(tPg p).map .t),(false,[.bp 1 82,.t (.sl true [])])]) _ p.funcs 0 _ _ _ [] rfl (Fr.refl _ _) ⟨_,rfl,.inl ⟨rfl,rfl⟩⟩ (by simp only[g7O];omega) (by simp only[wQ,Nat.reduceEqDiff,reduceIte];exact rfl) ?_
  intro fr1 sg1 ow1 k1 f1 q1
  rw[g8F] at k1
  simp only[b9A,b8Z] at q1
  obtain⟨p1,p5,-⟩:=q1
  have z1:=f1.get (i:=0) rfl (by decide)
  simp only[wA,seval,reduceCtorEq,reduceIte,p1,p5,z1,g7N,g7T,g7U]
  refine g4L h2 ho.dl (fun e h=>⟨a2 e h,ho.dok e h⟩) (id:=1) (w1:=.lp 0 0) (sg0:=sg1) _ p.decls 0 _ _ _ _ rfl (Fr.refl _ _) k1 (by omega) (by simp only[wQ,Nat.reduceEqDiff,reduceIte,p1,p5];exact rfl) ?_
  intro fr2 sg2 ow2 k2 f2 q2
  clear p1 p5
  simp only[b9A,b8Z] at q2
  obtain⟨p1,p5,-⟩:=q2
  have z2:=(f1.trans f2).get (i:=0) rfl (by decide)
  simp only[wA,seval,reduceCtorEq,reduceIte,p1,p5,z2,d2S,g7T,g7U]
  refine g4J h2 ho.bl (fun e h=>⟨a3 e h,ho.bo e h⟩) (id:=1) (w1:=.lp 0 0) (sg0:=sg2) _ p.body 0 _ _ _ _ rfl (Fr.refl _ _) k2 (by simp only[g7K];omega) (by simp only[wQ,Nat.reduceEqDiff,reduceIte,p1,p5];exact rfl) ?_
  intro fr3 sg3 ow3 k3 f3 q3
  clear p1 p5
  simp only[b9A,b8Z] at q3
  obtain⟨p1,p5,-⟩:=q3
  rw[g6H,←hfp] at k3
  have hst:=k3.str (by omega)
  simp only[wA,seval,reduceCtorEq,reduceIte,p1,p5,hst,hL]
 ·rw[if_pos hv]
  have c:(d4L p=0)=False:=g9O hv
  simp only[wA,seval,reduceCtorEq,reduceIte,hV,c]
end Go.Proofs.YtcbgiabippcpaaaGreatDoor
