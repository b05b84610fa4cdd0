/- Contracts: bytes, lists of names, spans, gaps. -/
import Derived.Test.YtcbgiabippcpaaaGreatDoorM36
import Derived.Test.YtcbgiabippcpaaaGreatDoorLx3
set_option maxRecDepth 10000
set_option linter.unusedVariables false
set_option linter.unusedSimpArgs false
namespace Go.Proofs.YtcbgiabippcpaaaGreatDoor
open Go.Pi Go.Lx
variable {gl:Nat→Option (List T)}
theorem e2P (c:UInt8) {sg:Sg} {ow:Ow} {K:PV→Sg→Ow→Prop}:XcE F gl 112 [.t (tB c)] sg ow K ⟨⟩↔K (.t (.bool (d0M c))) sg ow:=by
 refine CallE.iff (XcE.of F112 rfl ?_)
 simp only[c8H]
 simp only[wA,seval,reduceCtorEq,reduceIte]
 repeat' ((with_reducible first|refine c3G ?_ ?_|refine c3H ?_ ?_|refine c3F ?_ ?_|refine c3E ?_ ?_|refine c3C ?_ ?_|refine c3D ?_ ?_|refine c3B ?_ ?_|refine c3A ?_ ?_) <;> intro h <;> (try simp only[wA,seval,reduceCtorEq,reduceIte,h]))
 all_goals (simp_all [e1K] <;> omega)
theorem e2Q (s:List UInt8) (c:UInt8) {K:PV→Prop}:XcP F gl 125 [.str s,tB c] K ⟨⟩↔K (.t (.int .i64 (Lib.indexByte s c))):=by
 refine Ret.iff (Ret.of F125 rfl ?_)
 simp only[c8Q]
 have e:c.toNat.toUInt8=c:=by simp
 simp only[wA,seval,reduceCtorEq,reduceIte,a0Q,g6D,e]
 repeat' ((with_reducible first|refine c3G ?_ ?_|refine c3H ?_ ?_|refine c3F ?_ ?_|refine c3E ?_ ?_|refine c3C ?_ ?_|refine c3D ?_ ?_|refine c3B ?_ ?_|refine c3A ?_ ?_) <;> intro h <;> (try simp only[wA,seval,reduceCtorEq,reduceIte,a0Q,g6D,e,h]))
theorem e2R (s:List UInt8) (c:UInt8) {K:PV→Prop}:XcP F gl 115 [.str s,tB c] K ⟨⟩↔K (.t (.int .i64 (Lib.indexByte s c))):=by
 refine Ret.iff (Ret.of F115 rfl ?_)
 simp only[c8I]
 simp only[wA,seval,reduceCtorEq,reduceIte,e2Q]
 repeat' ((with_reducible first|refine c3G ?_ ?_|refine c3H ?_ ?_|refine c3F ?_ ?_|refine c3E ?_ ?_|refine c3C ?_ ?_|refine c3D ?_ ?_|refine c3B ?_ ?_|refine c3A ?_ ?_) <;> intro h <;> (try simp only[wA,seval,reduceCtorEq,reduceIte,e2Q,h]))
end Go.Proofs.YtcbgiabippcpaaaGreatDoor

/- Contracts: names, numbers, symbols. -/
namespace Go.Proofs.YtcbgiabippcpaaaGreatDoor
open Go.Pi Go.Lx
variable {gl:Nat→Option (List T)}
def e2S (s p:List UInt8):Bool:=decide (p.length≤s.length)&&decide (s.take p.length=p)
theorem e2T (s p:List UInt8) {K:PV→Prop}:XcP F gl 121 [.str s,.str p] K ⟨⟩↔K (.t (.bool (e2S s p))):=by
 refine Ret.iff (Ret.of F121 rfl ?_)
 simp only[c8P]
 by_cases c:p.length≤s.length
 ·have c':(p.length:Int)≤(s.length:Int):=by omega
  have c2:(0:Int)≤(p.length:Int):=by omega
  simp only[wA,seval,reduceCtorEq,reduceIte,c',c2,a0T,bound,g6D,g9A,c,g9J,g6O,e2S,g6A]
  repeat' ((with_reducible first|refine c3G ?_ ?_|refine c3H ?_ ?_|refine c3F ?_ ?_|refine c3E ?_ ?_|refine c3C ?_ ?_|refine c3D ?_ ?_|refine c3B ?_ ?_|refine c3A ?_ ?_) <;> intro h <;> (try simp only[wA,seval,reduceCtorEq,reduceIte,c',c2,a0T,bound,g6D,g9A,c,g9J,g6O,e2S,g6A,h]))
 ·have c':¬((p.length:Int)≤(s.length:Int)):=by omega
  simp only[wA,seval,reduceCtorEq,reduceIte,c',e2S,c,Bool.false_and]
  repeat' ((with_reducible first|refine c3G ?_ ?_|refine c3H ?_ ?_|refine c3F ?_ ?_|refine c3E ?_ ?_|refine c3C ?_ ?_|refine c3D ?_ ?_|refine c3B ?_ ?_|refine c3A ?_ ?_) <;> intro h <;> (try simp only[wA,seval,reduceCtorEq,reduceIte,c',e2S,c,Bool.false_and,h]))
theorem e2U (s p:List UInt8) {K:PV→Prop}:XcP F gl 111 [.str s,.str p] K ⟨⟩↔K (.t (.bool (e2S s p))):=by
 refine Ret.iff (Ret.of F111 rfl ?_)
 simp only[c8G]
 simp only[wA,seval,reduceCtorEq,reduceIte,e2T]
 repeat' ((with_reducible first|refine c3G ?_ ?_|refine c3H ?_ ?_|refine c3F ?_ ?_|refine c3E ?_ ?_|refine c3C ?_ ?_|refine c3D ?_ ?_|refine c3B ?_ ?_|refine c3A ?_ ?_) <;> intro h <;> (try simp only[wA,seval,reduceCtorEq,reduceIte,e2T,h]))
end Go.Proofs.YtcbgiabippcpaaaGreatDoor

/- Contracts: gaps. -/
namespace Go.Proofs.YtcbgiabippcpaaaGreatDoor
open Go.Pi Go.Lx
variable {gl:Nat→Option (List T)}
def cm:List UInt8→Nat
 |[]=>0
 |c::r=>if c=10 then 0 else cm r+1
theorem e2V:∀ r,cm r≤r.length:=by
 intro r
 induction r with
 |nil=>simp [cm]
 |cons c r ih=>simp only[cm,g7L];split <;> omega
theorem e2W:∀ r,d0Q true r=cm r+d0Q false (r.drop (cm r)):=by
 intro r
 induction r with
 |nil=>simp [cm,d0Q]
 |cons c r ih =>
  by_cases h:c=10
  ·subst h
   simp [cm,d0Q,d0O]
  ·have:(c != 10)=true:=by simpa using h
   simp only[cm,if_neg h,d0Q,this,g6N]
   omega
theorem ne10 {c:UInt8}:(c=10)↔((c.toNat:Int)=10):=e1L (n:=10) (by omega)
theorem e2X {c:UInt8} (h:d0O c=true):(c.toNat:Int)=32∨(c.toNat:Int)=9∨(c.toNat:Int)=13∨(c.toNat:Int)=10:=by
 simp only[d0O,g5Z,beq_iff_eq] at h
 rcases h with((h|h)|h)|h <;> subst h
 ·exact .inl rfl
 ·exact .inr (.inl rfl)
 ·exact .inr (.inr (.inl rfl))
 ·exact .inr (.inr (.inr rfl))
theorem e2Y {c:UInt8} (h:d0O c=false):¬(c.toNat:Int)=32∧¬(c.toNat:Int)=9∧¬(c.toNat:Int)=13∧¬(c.toNat:Int)=10:=by
 simp only[d0O,Bool.or_eq_false_iff,beq_eq_false_iff_ne] at h
 obtain⟨⟨⟨h1,h2⟩,h3⟩,h4⟩:=h
 exact⟨fun e=>h1 ((e1L (n:=32) (by omega)).2 e),fun e=>h2 ((e1L (n:=9) (by omega)).2 e),fun e=>h3 ((e1L (n:=13) (by omega)).2 e),fun e=>h4 ((e1L (n:=10) (by omega)).2 e)⟩
theorem e2Z {s:List UInt8} {i:Nat} (h:i≤s.length):a0T (.t (.str s)) (some (.t (.int .i64 (i:Int)))) none=some (.t (.str (s.drop i))):=by
 have:(0:Int)≤(i:Int):=by omega
 simp only[a0T,bound,this,if_true,g6D,h,g8S,g9J,List.take_length]
theorem e3A {s:List UInt8} (hl:s.length≤281474976710656) {sg:Sg} {ow:Ow} (Q:Ex→S→Prop):∀ (r:List UInt8) (i:Nat) (fr:List PV),s.drop i=r →
  b8Y fr [(0,.t (.str s)),(1,.t (.int .i64 i))] →
  (∀ fr',b8Y fr' [(0,.t (.str s)),(1,.t (.int .i64 ((i+cm r:Nat):Int)))]→Q (.exit 2) ⟨fr',sg,ow⟩) →
  Xl F gl c7A ⟨fr,sg,ow⟩ Q ⟨⟩:=by
 intro r
 induction r with
 |nil =>
  intro i fr hd hf h1
  have hd:=b8T hd
  simp only[b9A,b8Z] at hf
  obtain⟨f0,f1,-⟩:=hf
  refine Xl.step ?_
  simp only[c7A]
  have c1:¬((i:Int) < (s.length:Int)):=by omega
  simp only[wA,seval,reduceCtorEq,reduceIte,f0,f1,c1]
  repeat' ((with_reducible first|refine c3G ?_ ?_|refine c3H ?_ ?_|refine c3F ?_ ?_|refine c3E ?_ ?_|refine c3C ?_ ?_|refine c3D ?_ ?_|refine c3B ?_ ?_|refine c3A ?_ ?_) <;> intro h <;> (try simp only[wA,seval,reduceCtorEq,reduceIte,f0,f1,c1,h]))
  exact h1 _ (by simp only[wQ,Nat.reduceEqDiff,reduceIte,f0,f1,cm,g8N])
 |cons x r ih =>
  intro i fr hd hf h1
  obtain⟨hx,hr,hi⟩:=b8S hd
  simp only[b9A,b8Z] at hf
  obtain⟨f0,f1,-⟩:=hf
  refine Xl.step ?_
  simp only[c7A]
  have c1:(i:Int) < (s.length:Int):=by omega
  have c0:(0:Int)≤(i:Int):=by omega
  have hw1:IntKind.wrap .i64 ((i:Int)+1)=((i+1:Nat):Int):=by rw[IntWalk.i64_in _ (by omega)];omega
  by_cases c:x=10
  ·have d:=ne10.1 c
   simp only[wA,seval,reduceCtorEq,reduceIte,f0,f1,c1,c0,hw1,g6D,hx,d,g5Y]
   repeat' ((with_reducible first|refine c3G ?_ ?_|refine c3H ?_ ?_|refine c3F ?_ ?_|refine c3E ?_ ?_|refine c3C ?_ ?_|refine c3D ?_ ?_|refine c3B ?_ ?_|refine c3A ?_ ?_) <;> intro h <;> (try simp only[wA,seval,reduceCtorEq,reduceIte,f0,f1,c1,c0,hw1,g6D,hx,d,g5Y,h]))
   exact h1 _ (by simp only[wQ,Nat.reduceEqDiff,reduceIte,f0,f1,cm,if_pos c,g8N])
  ·have d:¬((x.toNat:Int)=10):=fun e=>c (ne10.2 e)
   simp only[wA,seval,reduceCtorEq,reduceIte,f0,f1,c1,c0,hw1,g6D,hx,d,g5X]
   repeat' ((with_reducible first|refine c3G ?_ ?_|refine c3H ?_ ?_|refine c3F ?_ ?_|refine c3E ?_ ?_|refine c3C ?_ ?_|refine c3D ?_ ?_|refine c3B ?_ ?_|refine c3A ?_ ?_) <;> intro h <;> (try simp only[wA,seval,reduceCtorEq,reduceIte,f0,f1,c1,c0,hw1,g6D,hx,d,g5X,h]))
   refine ih (i+1) _ hr (by simp only[wQ,Nat.reduceEqDiff,reduceIte,f0]) fun fr' h=>h1 fr' ?_
   rw[cm,if_neg c,show i+(cm r+1)=i+1+cm r by omega]
   exact h
theorem e3B (c:UInt8) (r:List UInt8):e2S (c::r) [45,45]=(c == 45&&r.head? == some 45):=by
 cases r with
 |nil=>simp [e2S]
 |cons d r =>
  by_cases h1:c=45 <;> by_cases h2:d=45 <;> simp [e2S,h1,h2]
theorem e3C {s:List UInt8} (hl:s.length≤281474976710656) {sg:Sg} {ow:Ow} (Q:Ex→S→Prop):∀ (n:Nat) (r:List UInt8) (i:Nat) (fr:List PV),r.length≤n→s.drop i=r →
  b8Y fr [(0,.t (.str s)),(1,.t (.int .i64 i))] →
  (∀ fr',b8Y fr' [(0,.t (.str s)),(1,.t (.int .i64 ((i+d0Q false r:Nat):Int)))]→Q (.exit 0) ⟨fr',sg,ow⟩) →
  (∀ fr',a0A fr' 4=.t (.int .i64 ((i+d0Q false r:Nat):Int))→Q .ret ⟨fr',sg,ow⟩) →
  Xl F gl c7B ⟨fr,sg,ow⟩ Q ⟨⟩:=by
 intro n
 induction n with
 |zero =>
  intro r i fr hn hd hf h1 h2
  have hr0:r=[]:=by simpa using hn
  subst hr0
  have hd:=b8T hd
  simp only[b9A,b8Z] at hf
  obtain⟨f0,f1,-⟩:=hf
  refine Xl.step ?_
  simp only[c7B]
  have c1:¬((i:Int) < (s.length:Int)):=by omega
  simp only[wA,seval,reduceCtorEq,reduceIte,f0,f1,c1]
  repeat' ((with_reducible first|refine c3G ?_ ?_|refine c3H ?_ ?_|refine c3F ?_ ?_|refine c3E ?_ ?_|refine c3C ?_ ?_|refine c3D ?_ ?_|refine c3B ?_ ?_|refine c3A ?_ ?_) <;> intro h <;> (try simp only[wA,seval,reduceCtorEq,reduceIte,f0,f1,c1,h]))
  exact h1 _ (by simp only[wQ,Nat.reduceEqDiff,reduceIte,f0,f1,d0Q,g8N])
 |succ n ih =>
  intro r i fr hn hd hf h1 h2
  cases r with
  |nil =>
   have hd:=b8T hd
   simp only[b9A,b8Z] at hf
   obtain⟨f0,f1,-⟩:=hf
   refine Xl.step ?_
   simp only[c7B]
   have c1:¬((i:Int) < (s.length:Int)):=by omega
   simp only[wA,seval,reduceCtorEq,reduceIte,f0,f1,c1]
   repeat' ((with_reducible first|refine c3G ?_ ?_|refine c3H ?_ ?_|refine c3F ?_ ?_|refine c3E ?_ ?_|refine c3C ?_ ?_|refine c3D ?_ ?_|refine c3B ?_ ?_|refine c3A ?_ ?_) <;> intro h <;> (try simp only[wA,seval,reduceCtorEq,reduceIte,f0,f1,c1,h]))
   exact h1 _ (by simp only[wQ,Nat.reduceEqDiff,reduceIte,f0,f1,d0Q,g8N])
  |cons x r =>
   obtain⟨hx,hr,hi⟩:=b8S hd
   simp only[b9A,b8Z] at hf
   obtain⟨f0,f1,-⟩:=hf
   simp only[g7L] at hn
   have c1:(i:Int) < (s.length:Int):=by omega
   have c0:(0:Int)≤(i:Int):=by omega
   have hw1:IntKind.wrap .i64 ((i:Int)+1)=((i+1:Nat):Int):=by rw[IntWalk.i64_in _ (by omega)];omega
   have hsl:=e2Z (s:=s) (i:=i) (by omega)
   rw[hd] at hsl
   refine Xl.step ?_
   simp only[c7B]
   cases hb:d0O x with
   |true =>
    have e:d0Q false (x::r)=d0Q false r+1:=by simp only[d0Q,hb,if_true]
    rw[e] at h1 h2
    have e2:i+(d0Q false r+1)=i+1+d0Q false r:=by omega
    rw[e2] at h1 h2
    rcases e2X hb with d|d|d|d
    ·simp only[wA,seval,reduceCtorEq,reduceIte,f0,f1,c1,c0,hw1,g6D,hx,d]
     repeat' ((with_reducible first|refine c3G ?_ ?_|refine c3H ?_ ?_|refine c3F ?_ ?_|refine c3E ?_ ?_|refine c3C ?_ ?_|refine c3D ?_ ?_|refine c3B ?_ ?_|refine c3A ?_ ?_) <;> intro h <;> (try simp only[wA,seval,reduceCtorEq,reduceIte,f0,f1,c1,c0,hw1,g6D,hx,d,h]))
     exact ih r (i+1) _ (by omega) hr (by simp only[wQ,Nat.reduceEqDiff,reduceIte,f0]) h1 h2
    ·simp only[wA,seval,reduceCtorEq,reduceIte,f0,f1,c1,c0,hw1,g6D,hx,d]
     repeat' ((with_reducible first|refine c3G ?_ ?_|refine c3H ?_ ?_|refine c3F ?_ ?_|refine c3E ?_ ?_|refine c3C ?_ ?_|refine c3D ?_ ?_|refine c3B ?_ ?_|refine c3A ?_ ?_) <;> intro h <;> (try simp only[wA,seval,reduceCtorEq,reduceIte,f0,f1,c1,c0,hw1,g6D,hx,d,h]))
     exact ih r (i+1) _ (by omega) hr (by simp only[wQ,Nat.reduceEqDiff,reduceIte,f0]) h1 h2
    ·simp only[wA,seval,reduceCtorEq,reduceIte,f0,f1,c1,c0,hw1,g6D,hx,d]
     repeat' ((with_reducible first|refine c3G ?_ ?_|refine c3H ?_ ?_|refine c3F ?_ ?_|refine c3E ?_ ?_|refine c3C ?_ ?_|refine c3D ?_ ?_|refine c3B ?_ ?_|refine c3A ?_ ?_) <;> intro h <;> (try simp only[wA,seval,reduceCtorEq,reduceIte,f0,f1,c1,c0,hw1,g6D,hx,d,h]))
     exact ih r (i+1) _ (by omega) hr (by simp only[wQ,Nat.reduceEqDiff,reduceIte,f0]) h1 h2
    ·simp only[wA,seval,reduceCtorEq,reduceIte,f0,f1,c1,c0,hw1,g6D,hx,d]
     repeat' ((with_reducible first|refine c3G ?_ ?_|refine c3H ?_ ?_|refine c3F ?_ ?_|refine c3E ?_ ?_|refine c3C ?_ ?_|refine c3D ?_ ?_|refine c3B ?_ ?_|refine c3A ?_ ?_) <;> intro h <;> (try simp only[wA,seval,reduceCtorEq,reduceIte,f0,f1,c1,c0,hw1,g6D,hx,d,h]))
     exact ih r (i+1) _ (by omega) hr (by simp only[wQ,Nat.reduceEqDiff,reduceIte,f0]) h1 h2
   |false =>
    obtain⟨d1,d2,d3,d4⟩:=e2Y hb
    have a:=@e2U gl (x::r) [45,45]
    rw[e3B] at a
    cases hc:(x == 45&&r.head? == some 45) with
    |false =>
     have e:d0Q false (x::r)=0:=by simp only[d0Q,hb,hc,g5V,if_false]
     rw[e] at h1 h2
     rw[hc] at a
     simp only[wA,seval,reduceCtorEq,reduceIte,f0,f1,c1,c0,hw1,g6D,hx,d1,d2,d3,d4,hsl,a,g5X]
     repeat' ((with_reducible first|refine c3G ?_ ?_|refine c3H ?_ ?_|refine c3F ?_ ?_|refine c3E ?_ ?_|refine c3C ?_ ?_|refine c3D ?_ ?_|refine c3B ?_ ?_|refine c3A ?_ ?_) <;> intro h <;> (try simp only[wA,seval,reduceCtorEq,reduceIte,f0,f1,c1,c0,hw1,g6D,hx,d1,d2,d3,d4,hsl,a,g5X,h]))
     exact h2 _ (by simp only[wQ,Nat.reduceEqDiff,reduceIte,f1,g8N])
    |true =>
     have e:d0Q false (x::r)=d0Q true (x::r):=by
      simp only[d0Q,hb,hc,g5V,if_false,if_true]
      simp only[g5U,beq_iff_eq] at hc
      rw[hc.1]
      rfl
     rw[e2W] at e
     rw[e] at h1 h2
     rw[hc] at a
     have hx10:x≠10:=by
      simp only[g5U,beq_iff_eq] at hc
      rw[hc.1];decide
     have hcm:cm (x::r)=cm r+1:=by simp only[cm,if_neg hx10]
     have hle:=e2V r
     simp only[wA,seval,reduceCtorEq,reduceIte,f0,f1,c1,c0,hw1,g6D,hx,d1,d2,d3,d4,hsl,a,g5Y]
     repeat' ((with_reducible first|refine c3G ?_ ?_|refine c3H ?_ ?_|refine c3F ?_ ?_|refine c3E ?_ ?_|refine c3C ?_ ?_|refine c3D ?_ ?_|refine c3B ?_ ?_|refine c3A ?_ ?_) <;> intro h <;> (try simp only[wA,seval,reduceCtorEq,reduceIte,f0,f1,c1,c0,hw1,g6D,hx,d1,d2,d3,d4,hsl,a,g5Y,h]))
     refine e3A hl _ (x::r) i _ hd (by simp only[wQ,Nat.reduceEqDiff,reduceIte,f0,f1]) fun fr' h=>?_
     simp only[wA,seval,reduceCtorEq,reduceIte]
     repeat' ((with_reducible first|refine c3G ?_ ?_|refine c3H ?_ ?_|refine c3F ?_ ?_|refine c3E ?_ ?_|refine c3C ?_ ?_|refine c3D ?_ ?_|refine c3B ?_ ?_|refine c3A ?_ ?_) <;> intro h <;> (try simp only[wA,seval,reduceCtorEq,reduceIte,h]))
     refine ih ((x::r).drop (cm (x::r))) (i+cm (x::r)) fr' (by rw[hcm];simp only[g7M,g7L];omega) (by rw[←g6M,hd]) h ?_ ?_
     ·intro fr'' h'
      rw[g8K] at h'
      exact h1 fr'' h'
     ·intro fr'' h'
      rw[g8K] at h'
      exact h2 fr'' h'
theorem ok86 (s:List UInt8) (hl:s.length≤281474976710656) (i:Nat) {K:PV→Prop}:XcP F gl 86 [.str s,.int .i64 i] K ⟨⟩↔K (.t (.int .i64 ((i+d0Q false (s.drop i):Nat):Int))):=by
 refine Ret.iff (Ret.of F86 rfl ?_)
 simp only[c7C]
 simp only[wA,seval,reduceCtorEq,reduceIte]
 repeat' ((with_reducible first|refine c3G ?_ ?_|refine c3H ?_ ?_|refine c3F ?_ ?_|refine c3E ?_ ?_|refine c3C ?_ ?_|refine c3D ?_ ?_|refine c3B ?_ ?_|refine c3A ?_ ?_) <;> intro h <;> (try simp only[wA,seval,reduceCtorEq,reduceIte,h]))
 refine e3C hl _ (s.drop i).length (s.drop i) i _ (g8S _) rfl (by simp only[wQ,Nat.reduceEqDiff,reduceIte]) ?_ ?_
 ·intro fr' h
  simp only[b9A,b8Z] at h
  obtain⟨f0,f1,-⟩:=h
  simp only[wA,seval,reduceCtorEq,reduceIte,f0,f1]
  repeat' ((with_reducible first|refine c3G ?_ ?_|refine c3H ?_ ?_|refine c3F ?_ ?_|refine c3E ?_ ?_|refine c3C ?_ ?_|refine c3D ?_ ?_|refine c3B ?_ ?_|refine c3A ?_ ?_) <;> intro h <;> (try simp only[wA,seval,reduceCtorEq,reduceIte,f0,f1,h]))
 ·intro fr' h
  simp only[wA,seval,reduceCtorEq,reduceIte,h]
  repeat' ((with_reducible first|refine c3G ?_ ?_|refine c3H ?_ ?_|refine c3F ?_ ?_|refine c3E ?_ ?_|refine c3C ?_ ?_|refine c3D ?_ ?_|refine c3B ?_ ?_|refine c3A ?_ ?_) <;> intro h <;> (try simp only[wA,seval,reduceCtorEq,reduceIte,h,h]))
end Go.Proofs.YtcbgiabippcpaaaGreatDoor

/- Contracts: the next token. -/
namespace Go.Proofs.YtcbgiabippcpaaaGreatDoor
open Go.Pi Go.Lx
variable {gl:Nat→Option (List T)}
def e3D:List T:=[.str [111,114],.int .i64 19,.str [],.int .i64 0,.str [],.int .i64 0,.str [],.int .i64 0,
 .str [97,110,100],.int .i64 18,.str [],.int .i64 0,.str [],.int .i64 0,.str [],.int .i64 0,
 .str [61,61],.int .i64 14,.str [33,61],.int .i64 15,.str [60],.int .i64 16,.str [60,61],.int .i64 17,
 .str [43],.int .i64 12,.str [45],.int .i64 13,.str [],.int .i64 0,.str [],.int .i64 0,
 .str [42],.int .i64 11,.str [],.int .i64 0,.str [],.int .i64 0,.str [],.int .i64 0]
structure GlOk (gl:Nat→Option (List T)):Prop where
 g0:gl 2=some [.ifx]
 g1:gl 3=some [.ifx]
 g2:∃ m,gl 4=some [.int .i64 m]
 g3:gl 0=some e3D
theorem e3E {k l n:Nat} {ag:Bool} {K:PV→Sg→Ow→Prop} {s:S}:xR gl [(k,some (ag,n)),(l,none)] K ⟨⟩ .ret s↔xO (loadP gl s.sg ag n (a0A s.fr k)) (fun v=>K (.tup [v,a0A s.fr l]) s.sg s.ow) ⟨⟩:=by
 show b8L gl [(k,some (ag,n)),(l,none)] K .ret s↔onO (loadP gl s.sg ag n (a0A s.fr k)) (fun v=>K (.tup [v,a0A s.fr l]) s.sg s.ow)
 simp only[b8L,a1P,g7R,a1O,List.mapM_nil]
 cases loadP gl s.sg ag n (a0A s.fr k) <;> rfl
theorem puM:∀ (l:List UInt8) (acc:Nat),(∀ c,c∈l→d0M c=true)→acc≤18446744073709551615→Lib.parseUintM 18446744073709551615 acc l=if 18446744073709551615 < d1Z acc l then .range else .ok (d1Z acc l):=by
 intro l
 induction l with
 |nil=>intro acc _ h;rw[d2C,if_neg (by omega)];rfl
 |cons c r ih =>
  intro acc hd h
  obtain⟨d1,d2⟩:=d2E (hd c g7Y)
  have hge:=d2D r (10 * acc+(c.toNat - 48))
  rw[d2B]
  rw[Lib.parseUintM,if_pos ⟨d1,d2⟩]
  have e:acc * 10+(c.toNat - 48)=10 * acc+(c.toNat - 48):=by omega
  rw[e]
  split
  ·rw[if_pos (by omega)]
  ·split
   ·rw[if_pos (by omega)]
   ·exact ih _ (fun x hx=>hd x (g7X _ hx)) (by omega)
theorem puB {l:List UInt8} (hd:∀ c,c∈l→d0M c=true) (hne:l≠[]):Lib.parseUintB 64 l=if 18446744073709551615 < d0U l then .range else .ok (d0U l):=by
 rw[Lib.parseUintB,if_neg hne,←d2A]
 exact puM l 0 hd (by omega)
theorem xpu (hg:GlOk gl) {t:List UInt8} (hd:∀ c,c∈t→d0M c=true) (hne:t≠[]) (hl:t.length≤281474976710656) :
  a0Q gl 12325 [.str t,.int .i64 10,.int .i64 64]=some (if 18446744073709551615 < d0U t then .tup [.t (.int .u64 18446744073709551615),.t .ifx] else .tup [.t (.int .u64 (d0U t)),.t .nif]):=by
 show a0P gl 2 770 [.str t,.int .i64 10,.int .i64 64]=_
 have e1:gl (770 % 256)=some [.ifx]:=hg.g0
 have e2:gl (770 / 256)=some [.ifx]:=hg.g1
 by_cases h:18446744073709551615 < d0U t
 ·simp only[a0P,e1,e2,hl,g9J,if_true,puB hd hne,if_pos h]
 ·simp only[a0P,e1,e2,hl,g9J,if_true,puB hd hne,if_neg h]
theorem xct (hg:GlOk gl) {a b:List UInt8} (ha:a.length < 4294967281):a0Q gl 68 [.str a,.str b]=some (.t (.bool (Lib.contains a b))):=by
 show a0P gl 1 4 [.str a,.str b]=_
 obtain⟨m,e⟩:=hg.g2
 simp only[a0P,e,ha,if_true]
theorem e3F {s:List UInt8} {n:Nat} (h:n≤s.length):a0T (.t (.str s)) none (some (.t (.int .i64 (n:Int))))=some (.t (.str (s.take n))):=by
 have:(0:Int)≤(n:Int):=by omega
 simp only[a0T,bound,this,if_true,g6D,h,g9A,g9J,g6O]
def e3G (t:Tok):List T:=[.int .i64 t.kind,.str t.text,.int .u64 t.val,.int .i64 t.pos]
def nxV (pos:Nat) (s:List UInt8):PV :=
 match next s with
 |.err e=>.tup [.t (.agg [.int .i64 0,.str [],.int .u64 0,.int .i64 0]),.t (.int .i64 e)]
 |.ok k n v=>.tup [.t (.agg (e3G ⟨k,s.take n,v,pos⟩)),.t (.int .i64 0)]
def zTok:PV:=.t (.agg [.int .i64 0,.str [],.int .u64 0,.int .i64 0])
def tkV (k:Nat) (t:List UInt8) (v pos:Nat):PV:=.tup [.t (.agg [.int .i64 k,.str t,.int .u64 v,.int .i64 pos]),.t (.int .i64 0)]
def erV (e:Nat):PV:=.tup [zTok,.t (.int .i64 e)]
theorem e3H {pos e:Nat} {s:List UInt8} (h:next s=.err e):nxV pos s=erV e:=by simp only[nxV,h];rfl
theorem e3I {pos k n v:Nat} {s:List UInt8} (h:next s=.ok k n v):nxV pos s=tkV k (s.take n) v pos:=by simp only[nxV,h];rfl
theorem e3J {pos:Nat} {c:UInt8} {r:List UInt8} (hL:d0L c=true):nxV pos (c::r)=if keywords.contains ((c::r).take (d0P d0N (c::r))) then tkV 2 ((c::r).take (d0P d0N (c::r))) 0 pos else if 24 < d0P d0N (c::r) then erV 3 else tkV 1 ((c::r).take (d0P d0N (c::r))) 0 pos:=by
 have e:next (c::r)=d0V (c::r):=by rw[next,if_pos hL]
 rw[d0V] at e
 split at e
 ·rename_i h;rw[if_pos h,e3I e]
 ·rename_i h
  rw[if_neg h]
  split at e
  ·rename_i h2;rw[if_pos h2,e3H e]
  ·rename_i h2;rw[if_neg h2,e3I e]
theorem e3K {pos:Nat} {c:UInt8} {r:List UInt8} (hL:d0L c=false) (hD:d0M c=true):nxV pos (c::r)=if ((c.toNat:Int)=48)∧1 < d0P d0M (c::r) then erV 2 else if 18446744073709551615 < d0U ((c::r).take (d0P d0M (c::r))) then erV 3 else tkV 3 ((c::r).take (d0P d0M (c::r))) (d0U ((c::r).take (d0P d0M (c::r)))) pos:=by
 have e:next (c::r)=d0W (c::r):=by rw[next,if_neg (by simp [hL]),if_pos hD]
 have e48:((c::r).head?=some 48)↔((c.toNat:Int)=48):=by rw[List.head?_cons,g9G];exact e1L (n:=48) (by omega)
 rw[d0W] at e
 split at e
 ·rename_i h;rw[if_pos ⟨e48.1 h.1,h.2⟩,e3H e]
 ·rename_i h
  rw[if_neg fun q=>h ⟨e48.2 q.1,q.2⟩]
  split at e
  ·rename_i h2;rw[if_pos h2,e3H e]
  ·rename_i h2;rw[if_neg h2,e3I e]
theorem e3L {pos:Nat} {c:UInt8} {r:List UInt8} (hL:d0L c=false) (hD:d0M c=false):nxV pos (c::r)=if d0S c r then tkV 4 ((c::r).take 2) 0 pos else if d0T c then tkV 4 ((c::r).take 1) 0 pos else erV 2:=by
 have e:next (c::r)=if d0S c r then .ok 4 2 0 else if d0T c then .ok 4 1 0 else .err 2:=by rw[next,if_neg (by simp [hL]),if_neg (by simp [hD])]
 split at e
 ·rename_i h;rw[if_pos h,e3I e]
 ·rename_i h
  rw[if_neg h]
  split at e
  ·rename_i h2;rw[if_pos h2,e3I e]
  ·rename_i h2;rw[if_neg h2,e3H e]
theorem ok87 (hg:GlOk gl) {s:List UInt8} (hl:s.length≤20000) {i:Nat} {c:UInt8} {r:List UInt8} (hd:s.drop i=c::r) {K:PV→Prop} :
  XcP F gl 87 [.str s,.int .i64 i] K ⟨⟩↔K (nxV i (c::r)):=by
 obtain⟨hx,hr,hi⟩:=b8S hd
 have hlen:(c::r).length≤20000:=by rw[←hd,g7M];omega
 have hsl:=e2Z (s:=s) (i:=i) (by omega)
 rw[hd] at hsl
 refine Ret.iff (Ret.of F87 rfl ?_)
 simp only[c7D]
 have a26:=@e1M gl c
 have a31:=@e1N gl c
 cases hL:d0L c with
 |true =>
  have a27:=@e1R gl d0N 93 e1P (c::r) (by omega)
  have l1:=d1A d0N (c::r)
  have st:=e3F l1
  have lt:((c::r).take (d0P d0N (c::r))).length=d0P d0N (c::r):=by rw[g7Q];omega
  have a29:=@ok94 gl false keywords (by decide) ((c::r).take (d0P d0N (c::r)))
  have hnx:=e3J (pos:=i) (r:=r) hL
  rw[hL] at a26
  generalize (c::r).take (d0P d0N (c::r))=t at *
  generalize d0P d0N (c::r)=n at *
  cases hk:keywords.contains t with
  |true =>
   rw[hk] at a29
   simp only[wA,seval,reduceCtorEq,reduceIte,e3E,hsl,a26,a27,st,e1T,a29]
   repeat' ((with_reducible first|refine c3G ?_ ?_|refine c3H ?_ ?_|refine c3F ?_ ?_|refine c3E ?_ ?_|refine c3C ?_ ?_|refine c3D ?_ ?_|refine c3B ?_ ?_|refine c3A ?_ ?_) <;> intro h <;> (try simp only[wA,seval,reduceCtorEq,reduceIte,e3E,hsl,a26,a27,st,e1T,a29,h]))
   first|done|(simp only[hnx,hk,g9J,g9K,g9I,g9Q,if_true,if_false,g5V,d0S];rfl)
  |false =>
   rw[hk] at a29
   by_cases h24:24 < n
   ·have h24':(24:Int) < (n:Int):=by omega
    simp only[wA,seval,reduceCtorEq,reduceIte,e3E,hsl,a26,a27,st,e1T,a29,lt,h24',h24,g5V]
    repeat' ((with_reducible first|refine c3G ?_ ?_|refine c3H ?_ ?_|refine c3F ?_ ?_|refine c3E ?_ ?_|refine c3C ?_ ?_|refine c3D ?_ ?_|refine c3B ?_ ?_|refine c3A ?_ ?_) <;> intro h <;> (try simp only[wA,seval,reduceCtorEq,reduceIte,e3E,hsl,a26,a27,st,e1T,a29,lt,h24',h24,g5V,h]))
    first|done|(simp only[hnx,hk,h24,g9J,g9K,g9I,g9Q,if_true,if_false,g5V,d0S];rfl)
   ·have h24':¬((24:Int) < (n:Int)):=by omega
    simp only[wA,seval,reduceCtorEq,reduceIte,e3E,hsl,a26,a27,st,e1T,a29,lt,h24',h24,g5V]
    repeat' ((with_reducible first|refine c3G ?_ ?_|refine c3H ?_ ?_|refine c3F ?_ ?_|refine c3E ?_ ?_|refine c3C ?_ ?_|refine c3D ?_ ?_|refine c3B ?_ ?_|refine c3A ?_ ?_) <;> intro h <;> (try simp only[wA,seval,reduceCtorEq,reduceIte,e3E,hsl,a26,a27,st,e1T,a29,lt,h24',h24,g5V,h]))
    first|done|(simp only[hnx,hk,h24,g9J,g9K,g9I,g9Q,if_true,if_false,g5V,d0S];rfl)
 |false =>
  rw[hL] at a26
  cases hD:d0M c with
  |true =>
   have a27:=@e1R gl d0M 112 e2P (c::r) (by omega)
   have l1:=d1A d0M (c::r)
   have st:=e3F l1
   have lt:((c::r).take (d0P d0M (c::r))).length=d0P d0M (c::r):=by rw[g7Q];omega
   have hall:∀ x,x∈(c::r).take (d0P d0M (c::r))→d0M x=true:=d1B d0M (c::r)
   have h0:((c::r).take (d0P d0M (c::r)))[0]?=some c:=by simp only[d0P,hD,if_true,g8J];rfl
   have hnx:=e3K (pos:=i) (r:=r) hL hD
   rw[hD] at a31
   generalize (c::r).take (d0P d0M (c::r))=t at *
   generalize d0P d0M (c::r)=n at *
   have hne:t≠[]:=by intro e;subst e;simp at h0
   have xp:=xpu hg hall hne (by omega)
   by_cases h48:(c.toNat:Int)=48
   ·have h48d:decide ((c.toNat:Int)=48)=true:=g9M h48
    by_cases h1:1 < n
    ·have h1':(1:Int) < (n:Int):=by omega
     simp only[wA,seval,reduceCtorEq,reduceIte,e3E,hsl,a26,a31,a27,st,lt,h0,h48d,h1',h1,g5V]
     repeat' ((with_reducible first|refine c3G ?_ ?_|refine c3H ?_ ?_|refine c3F ?_ ?_|refine c3E ?_ ?_|refine c3C ?_ ?_|refine c3D ?_ ?_|refine c3B ?_ ?_|refine c3A ?_ ?_) <;> intro h <;> (try simp only[wA,seval,reduceCtorEq,reduceIte,e3E,hsl,a26,a31,a27,st,lt,h0,h48d,h1',h1,g5V,h]))
     first|done|(simp only[hnx,h48,h1,g9J,g9K,g9I,g9Q,if_true,if_false,g5V,d0S];rfl)
    ·have h1':¬((1:Int) < (n:Int)):=by omega
     by_cases hv:18446744073709551615 < d0U t
     ·simp only[hv,if_true] at xp
      simp only[wA,seval,reduceCtorEq,reduceIte,e3E,hsl,a26,a31,a27,st,lt,h0,h48d,h1',h1,g5V,xp,hv,g9I]
      repeat' ((with_reducible first|refine c3G ?_ ?_|refine c3H ?_ ?_|refine c3F ?_ ?_|refine c3E ?_ ?_|refine c3C ?_ ?_|refine c3D ?_ ?_|refine c3B ?_ ?_|refine c3A ?_ ?_) <;> intro h <;> (try simp only[wA,seval,reduceCtorEq,reduceIte,e3E,hsl,a26,a31,a27,st,lt,h0,h48d,h1',h1,g5V,xp,hv,g9I,h]))
      first|done|(simp only[hnx,h48,h1,hv,g9J,g9K,g9I,g9Q,if_true,if_false,g5V,d0S];rfl)
     ·simp only[hv,if_false] at xp
      simp only[wA,seval,reduceCtorEq,reduceIte,e3E,hsl,a26,a31,a27,st,lt,h0,h48d,h1',h1,g5V,xp,hv,g9I]
      repeat' ((with_reducible first|refine c3G ?_ ?_|refine c3H ?_ ?_|refine c3F ?_ ?_|refine c3E ?_ ?_|refine c3C ?_ ?_|refine c3D ?_ ?_|refine c3B ?_ ?_|refine c3A ?_ ?_) <;> intro h <;> (try simp only[wA,seval,reduceCtorEq,reduceIte,e3E,hsl,a26,a31,a27,st,lt,h0,h48d,h1',h1,g5V,xp,hv,g9I,h]))
      first|done|(simp only[hnx,h48,h1,hv,g9J,g9K,g9I,g9Q,if_true,if_false,g5V,d0S];rfl)
   ·by_cases hv:18446744073709551615 < d0U t
    ·simp only[hv,if_true] at xp
     simp only[wA,seval,reduceCtorEq,reduceIte,e3E,hsl,a26,a31,a27,st,lt,h0,h48,g5V,xp,hv,g9Q]
     repeat' ((with_reducible first|refine c3G ?_ ?_|refine c3H ?_ ?_|refine c3F ?_ ?_|refine c3E ?_ ?_|refine c3C ?_ ?_|refine c3D ?_ ?_|refine c3B ?_ ?_|refine c3A ?_ ?_) <;> intro h <;> (try simp only[wA,seval,reduceCtorEq,reduceIte,e3E,hsl,a26,a31,a27,st,lt,h0,h48,g5V,xp,hv,g9Q,h]))
     first|done|(simp only[hnx,h48,hv,g9J,g9K,g9I,g9Q,if_true,if_false,g5V,d0S];rfl)
    ·simp only[hv,if_false] at xp
     simp only[wA,seval,reduceCtorEq,reduceIte,e3E,hsl,a26,a31,a27,st,lt,h0,h48,g5V,xp,hv,g9Q]
     repeat' ((with_reducible first|refine c3G ?_ ?_|refine c3H ?_ ?_|refine c3F ?_ ?_|refine c3E ?_ ?_|refine c3C ?_ ?_|refine c3D ?_ ?_|refine c3B ?_ ?_|refine c3A ?_ ?_) <;> intro h <;> (try simp only[wA,seval,reduceCtorEq,reduceIte,e3E,hsl,a26,a31,a27,st,lt,h0,h48,g5V,xp,hv,g9Q,h]))
     first|done|(simp only[hnx,h48,hv,g9J,g9K,g9I,g9Q,if_true,if_false,g5V,d0S];rfl)
  |false =>
   rw[hD] at a31
   have a34:=@e2R gl singles c
   have e34:=d2H c
   have st1:a0T (.t (.str (c::r))) none (some (.t (.int .i64 1)))=some (.t (.str [c])):=e3F (s:=c::r) (n:=1) (by simp)
   simp only[singles] at a34 e34
   have hnx:=e3L (pos:=i) (r:=r) hL hD
   cases r with
   |nil =>
    cases hs:d0T c with
    |true =>
     rw[hs] at e34
     have e34:=g9T e34
     simp only[wA,seval,reduceCtorEq,reduceIte,e3E,hsl,a26,a31,a34,e34,st1]
     repeat' ((with_reducible first|refine c3G ?_ ?_|refine c3H ?_ ?_|refine c3F ?_ ?_|refine c3E ?_ ?_|refine c3C ?_ ?_|refine c3D ?_ ?_|refine c3B ?_ ?_|refine c3A ?_ ?_) <;> intro h <;> (try simp only[wA,seval,reduceCtorEq,reduceIte,e3E,hsl,a26,a31,a34,e34,st1,h]))
     first|done|(simp only[hnx,hs,g9J,g9K,g9I,g9Q,if_true,if_false,g5V,d0S];rfl)
    |false =>
     rw[hs] at e34
     have e34:=g9S e34
     simp only[wA,seval,reduceCtorEq,reduceIte,e3E,hsl,a26,a31,a34,e34,st1,g5V]
     repeat' ((with_reducible first|refine c3G ?_ ?_|refine c3H ?_ ?_|refine c3F ?_ ?_|refine c3E ?_ ?_|refine c3C ?_ ?_|refine c3D ?_ ?_|refine c3B ?_ ?_|refine c3A ?_ ?_) <;> intro h <;> (try simp only[wA,seval,reduceCtorEq,reduceIte,e3E,hsl,a26,a31,a34,e34,st1,g5V,h]))
     first|done|(simp only[hnx,hs,g9J,g9K,g9I,g9Q,if_true,if_false,g5V,d0S];rfl)
   |cons d r =>
    have st2:a0T (.t (.str (c::d::r))) none (some (.t (.int .i64 2)))=some (.t (.str [c,d])):=e3F (s:=c::d::r) (n:=2) (by simp)
    have c2:(1:Int) < ((r.length+1+1:Nat):Int):=by omega
    have hp:Lib.contains [32,46,46,32,61,61,32,33,61,32,60,61,32] [32,c,d,32]=d0R c d:=d2G c d
    have xc:=xct hg (a:=[32,46,46,32,61,61,32,33,61,32,60,61,32]) (b:=[32,c,d,32]) (by simp)
    rw[hp] at xc
    cases hq:d0R c d with
    |true =>
     rw[hq] at xc
     simp only[wA,seval,reduceCtorEq,reduceIte,e3E,hsl,a26,a31,st2,c2,xc,g6L,g8F,g7L,g7O]
     repeat' ((with_reducible first|refine c3G ?_ ?_|refine c3H ?_ ?_|refine c3F ?_ ?_|refine c3E ?_ ?_|refine c3C ?_ ?_|refine c3D ?_ ?_|refine c3B ?_ ?_|refine c3A ?_ ?_) <;> intro h <;> (try simp only[wA,seval,reduceCtorEq,reduceIte,e3E,hsl,a26,a31,st2,c2,xc,g6L,g8F,g7L,g7O,h]))
     first|done|(simp only[hnx,hq,g9J,g9K,g9I,g9Q,if_true,if_false,g5V,d0S];rfl)
    |false =>
     rw[hq] at xc
     cases hs:d0T c with
     |true =>
      rw[hs] at e34
      have e34:=g9T e34
      simp only[wA,seval,reduceCtorEq,reduceIte,e3E,hsl,a26,a31,st2,c2,xc,a34,e34,st1,g6L,g8F,g7L,g7O,g5V]
      repeat' ((with_reducible first|refine c3G ?_ ?_|refine c3H ?_ ?_|refine c3F ?_ ?_|refine c3E ?_ ?_|refine c3C ?_ ?_|refine c3D ?_ ?_|refine c3B ?_ ?_|refine c3A ?_ ?_) <;> intro h <;> (try simp only[wA,seval,reduceCtorEq,reduceIte,e3E,hsl,a26,a31,st2,c2,xc,a34,e34,st1,g6L,g8F,g7L,g7O,g5V,h]))
      first|done|(simp only[hnx,hq,hs,g9J,g9K,g9I,g9Q,if_true,if_false,g5V,d0S];rfl)
     |false =>
      rw[hs] at e34
      have e34:=g9S e34
      simp only[wA,seval,reduceCtorEq,reduceIte,e3E,hsl,a26,a31,st2,c2,xc,a34,e34,st1,g6L,g8F,g7L,g7O,g5V]
      repeat' ((with_reducible first|refine c3G ?_ ?_|refine c3H ?_ ?_|refine c3F ?_ ?_|refine c3E ?_ ?_|refine c3C ?_ ?_|refine c3D ?_ ?_|refine c3B ?_ ?_|refine c3A ?_ ?_) <;> intro h <;> (try simp only[wA,seval,reduceCtorEq,reduceIte,e3E,hsl,a26,a31,st2,c2,xc,a34,e34,st1,g6L,g8F,g7L,g7O,g5V,h]))
      first|done|(simp only[hnx,hq,hs,g9J,g9K,g9I,g9Q,if_true,if_false,g5V,d0S];rfl)
end Go.Proofs.YtcbgiabippcpaaaGreatDoor

/- Contracts: the tokens of a text. -/
namespace Go.Proofs.YtcbgiabippcpaaaGreatDoor
open Go.Pi Go.Lx
variable {gl:Nat→Option (List T)}
def e3M:List Tok→PV
 |[]=>.t (.sl true [])
 |t::l=>.own 0 4 ((t::l).map e3G)
def e3N:List Tok→Ow
 |[]=>[]
 |t::l=>[(t::l).length]
theorem e3O (l:List Tok):(l.map e3G).all (fun x=>x.length == 4)=true:=by simp [e3G]
theorem e3P {n:Nat} (h:n≤1000000):a0N n 40=true:=by
 simp only[a0N,g9N]
 omega
theorem e3Q (l:List Tok) (t:Tok) (hl:l.length≤100000) (sg:Sg):a0V false sg (e3N l) 4 40 (e3M l) (.lit [e3G t])=some (e3M (l++[t]),e3N (l++[t])):=by
 have h1:([e3G t].all fun x=>x.length == 4)=true:=e3O [t]
 cases l with
 |nil =>
  have r1:a0N ([e3G t].length) 40=true:=e3P (by simp)
  simp only[e3M,e3N,a0V,a0L,elems,h1,r1,g9J,if_true,g7O,g8F,Nat.succ_pos,g9B]
  rfl
 |cons x l =>
  have r1:a0N (((x::l).map e3G).length+[e3G t].length) 40=true:=e3P (by simp at hl ⊢;omega)
  have e1:([(x::l).length]:Ow)[0]?=some (((x::l).map e3G).length):=by simp
  simp only[e3M,e3N,a0V,a0L,elems,h1,r1,e1,g9J,if_true,Nat.succ_pos,g9B]
  simp [e3M,e3N,e3G]
theorem e3R {s:List UInt8} {e:Nat} (h:next s=.err e):e=2∨e=3:=by
 cases s with
 |nil=>simp only[next] at h;injection h with h;exact .inl h.symm
 |cons c r =>
  simp only[next,d0V,d0W] at h
  repeat' split at h
  all_goals first|(injection h with h;omega)|cases h
theorem e3S:∀ (n:Nat) (s:List UInt8) (pos:Nat) (l:List Tok),s.length=n→d0X pos s=.toks l→l=l.dropLast++[⟨0,[],0,pos+s.length⟩]:=by
 intro n
 induction n using Nat.strongRecOn with
 |_ n ih =>
  intro s pos l hl h
  rcases d1G s with h1|⟨h1,⟨e,hn⟩|⟨k,m,v,hn⟩⟩
  ·rw[d1D h1] at h
   injection h with h
   subst h
   rfl
  ·rw[d1E h1 hn] at h;cases h
  ·have hp:=d1C hn
   rw[d1F h1 hn] at h
   cases hq:d0X (pos+gap s+m) (s.drop (gap s+m)) with
   |err p e=>rw[hq] at h;cases h
   |toks q =>
    rw[hq] at h
    injection h with h
    subst h
    have:=ih (s.drop (gap s+m)).length (by simp only[g7M] at hp ⊢;omega) _ _ _ rfl hq
    have hne:=d1I hq
    have e:pos+gap s+m+(s.drop (gap s+m)).length=pos+s.length:=by simp only[g7M] at hp ⊢;omega
    rw[e] at this
    rw[List.dropLast_cons_of_ne_nil hne,g6L,←this]
theorem e3T (hg:GlOk gl) {s:List UInt8} (hl:s.length≤20000) (Q:Ex→S→Prop):∀ (N p0:Nat) (acc:List Tok) (fr:List PV) (sg:Sg),(s.drop p0).length≤N→p0≤s.length→acc.length≤p0 →
  b8Y fr [(0,.t (.str s)),(5,e3M acc),(6,.t (.int .i64 ((p0+gap (s.drop p0):Nat):Int)))] →
  (∀ l,d0X p0 (s.drop p0)=.toks l→∀ fr' sg',b8Y fr' [(0,.t (.str s)),(5,e3M (acc++l.dropLast))]→(acc++l.dropLast).length≤20000→Q (.exit 0) ⟨fr',sg',e3N (acc++l.dropLast)⟩) →
  (∀ p e,d0X p0 (s.drop p0)=.err p e→∀ fr' sg' ow',b8Y fr' [(2,.t (.sl true [])),(3,.t (.int .i64 p)),(4,.t (.int .i64 e))]→Q .ret ⟨fr',sg',ow'⟩) →
  Xl F gl c5S ⟨fr,sg,e3N acc⟩ Q ⟨⟩:=by
 intro N
 induction N with
 |zero =>
  intro p0 acc fr sg hN hp0 ha hf h1 h2
  have hs0:s.drop p0=[]:=g6P (Nat.le_zero.1 hN)
  have hp:p0=s.length:=by have:=List.drop_eq_nil_iff.1 hs0;omega
  rw[hs0] at hf h1 h2
  have hlx:d0X p0 ([]:List UInt8)=.toks [⟨0,[],0,p0+0⟩]:=d1D (by simp [d0Q])
  simp only[b9A,b8Z,d0Q,g8N] at hf
  obtain⟨f0,f5,f6,-⟩:=hf
  refine Xl.step ?_
  simp only[c5S]
  have c1:¬((p0:Int) < (s.length:Int)):=by omega
  simp only[wA,seval,reduceCtorEq,reduceIte,f0,f5,f6,c1]
  repeat' ((with_reducible first|refine c3G ?_ ?_|refine c3H ?_ ?_|refine c3F ?_ ?_|refine c3E ?_ ?_|refine c3C ?_ ?_|refine c3D ?_ ?_|refine c3B ?_ ?_|refine c3A ?_ ?_) <;> intro h <;> (try simp only[wA,seval,reduceCtorEq,reduceIte,f0,f5,f6,c1,h]))
  have:=h1 _ hlx (a0B (a0B (a0B (a0B fr 14 (.t (.int .i64 p0))) 15 (.t (.str s))) 16 (.t (.int .i64 s.length))) 17 (.t (.bool false))) sg (by simp only[wQ,Nat.reduceEqDiff,reduceIte,f0,f5,List.dropLast_singleton,g6J]) (by simp;omega)
  simp only[List.dropLast_singleton,g6J] at this
  exact this
 |succ N ih =>
  intro p0 acc fr sg hN hp0 ha hf h1 h2
  have hgl:=d0Y (s.drop p0) false
  have hdl:(s.drop p0).length=s.length - p0:=g7M
  simp only[b9A,b8Z] at hf
  obtain⟨f0,f5,f6,-⟩:=hf
  rcases d1G (s.drop p0) with hE|⟨hlt,hh⟩
  ·have hlx:=d1D (pos:=p0) hE
   refine Xl.step ?_
   simp only[c5S]
   have c1:¬(((p0+gap (s.drop p0):Nat):Int) < (s.length:Int)):=by omega
   simp only[wA,seval,reduceCtorEq,reduceIte,f0,f5,f6,c1]
   repeat' ((with_reducible first|refine c3G ?_ ?_|refine c3H ?_ ?_|refine c3F ?_ ?_|refine c3E ?_ ?_|refine c3C ?_ ?_|refine c3D ?_ ?_|refine c3B ?_ ?_|refine c3A ?_ ?_) <;> intro h <;> (try simp only[wA,seval,reduceCtorEq,reduceIte,f0,f5,f6,c1,h]))
   have:=h1 _ hlx (a0B (a0B (a0B (a0B fr 14 (.t (.int .i64 ((p0+gap (s.drop p0):Nat):Int)))) 15 (.t (.str s))) 16 (.t (.int .i64 s.length))) 17 (.t (.bool false))) sg (by simp only[wQ,Nat.reduceEqDiff,reduceIte,f0,f5,List.dropLast_singleton,g6J]) (by simp;omega)
   simp only[List.dropLast_singleton,g6J] at this
   exact this
  ·have hdd:s.drop (p0+gap (s.drop p0))=(s.drop p0).drop (gap (s.drop p0)):=by rw[g6M]
   obtain⟨i,hi⟩:∃ i,i=p0+gap (s.drop p0):=⟨_,rfl⟩
   obtain⟨c,r,hcr⟩:∃ c r,s.drop i=c::r:=by
    cases hd:s.drop i with
    |nil=>have:=congrArg List.length hd;simp only[g7M,g7O] at this;omega
    |cons c r=>exact⟨c,r,rfl⟩
   rw[←hi] at f6 hdd
   have c1:(i:Int) < (s.length:Int):=by omega
   have a21:=@ok87 gl hg s hl i c r hcr
   have hlen:(c::r).length=s.length - i:=by rw[←hcr,g7M]
   refine Xl.step ?_
   simp only[c5S]
   rcases hh with⟨e,hn⟩|⟨k,n,v,hn⟩
   ·have hlx:=d1E (pos:=p0) hlt hn
    rw[←hdd,hcr] at hn
    rw[e3H hn] at a21
    simp only[erV,zTok] at a21
    rw[←hi] at hlx
    have he:¬((e:Int)=0):=by rcases e3R hn with h|h <;> omega
    simp only[wA,seval,reduceCtorEq,reduceIte,f0,f5,f6,c1,a21,he,g5X]
    repeat' ((with_reducible first|refine c3G ?_ ?_|refine c3H ?_ ?_|refine c3F ?_ ?_|refine c3E ?_ ?_|refine c3C ?_ ?_|refine c3D ?_ ?_|refine c3B ?_ ?_|refine c3A ?_ ?_) <;> intro h <;> (try simp only[wA,seval,reduceCtorEq,reduceIte,f0,f5,f6,c1,a21,he,g5X,h]))
    exact h2 i e hlx _ _ _ (by simp only[wQ,Nat.reduceEqDiff,reduceIte])
   ·have hpos:=d1C hn
    have hlx:=d1F (pos:=p0) hlt hn
    rw[←g6M,←hdd,hcr,←hi] at hlx
    rw[←hdd,hcr] at hn hpos
    rw[e3I hn] at a21
    simp only[tkV] at a21
    have hdn:(c::r).drop n=s.drop (i+n):=by rw[←hcr,g6M]
    rw[hdn] at hlx
    have htl:((c::r).take n).length=n:=by rw[g7Q];omega
    have hw:IntKind.wrap .i64 ((i:Int)+(n:Int))=((i+n:Nat):Int):=by rw[IntWalk.i64_in _ (by omega)];omega
    have a20:=@ok86 gl s (by omega) (i+n)
    have eap:=e3Q acc ⟨k,(c::r).take n,v,i⟩ (by omega)
    simp only[e3G] at eap
    generalize htx:(c::r).take n=tx at *
    have z0:((0:Int)=0)=True:=by simp
    simp only[wA,seval,reduceCtorEq,reduceIte,f0,f5,f6,c1,a21,b6J,a0C,a0M,T.isAgg,List.replicate,g6R,g6S,g6J,eap,htl,hw,a20,g5Y]
    repeat' ((with_reducible first|refine c3G ?_ ?_|refine c3H ?_ ?_|refine c3F ?_ ?_|refine c3E ?_ ?_|refine c3C ?_ ?_|refine c3D ?_ ?_|refine c3B ?_ ?_|refine c3A ?_ ?_) <;> intro h <;> (try simp only[wA,seval,reduceCtorEq,reduceIte,f0,f5,f6,c1,a21,b6J,a0C,a0M,T.isAgg,List.replicate,g6R,g6S,g6J,eap,htl,hw,a20,g5Y,h]))
    refine ih (i+n) (acc++[⟨k,tx,v,i⟩]) _ _ ?_ ?_ ?_ ?_ ?_ ?_
    ·rw[g7M];omega
    ·omega
    ·simp;omega
    ·simp only[wQ,Nat.reduceEqDiff,reduceIte,f0]
    ·intro l hll fr' sg' hf' hlen'
     rw[hll] at hlx
     have hne:=d1I hll
     have e1:acc++(⟨k,tx,v,i⟩::l).dropLast=acc++[⟨k,tx,v,i⟩]++l.dropLast:=by rw[List.dropLast_cons_of_ne_nil hne];simp
     have:=h1 (⟨k,tx,v,i⟩::l) hlx fr' sg' (by rw[e1];exact hf') (by rw[e1];exact hlen')
     rw[e1] at this
     exact this
    ·intro p e hee fr' sg' ow' hf'
     rw[hee] at hlx
     exact h2 p e hlx fr' sg' ow' hf'
def e3U (s:List UInt8):PV :=
 if 16384 < s.length then .tup [.t (.sl true []),.t (.int .i64 0),.t (.int .i64 3)] else
 match d0X 0 s with
 |.toks l=>.tup [.t (.sl false (l.map e3G)),.t (.int .i64 0),.t (.int .i64 0)]
 |.err p e=>.tup [.t (.sl true []),.t (.int .i64 p),.t (.int .i64 e)]
theorem e3V {s:List UInt8} (h:16384 < s.length):e3U s=.tup [.t (.sl true []),.t (.int .i64 0),.t (.int .i64 3)]:=by rw[e3U,if_pos h]
theorem e3W {s:List UInt8} (h:¬16384 < s.length) {l:List Tok} (hl:d0X 0 s=.toks l):e3U s=.tup [.t (.sl false (l.map e3G)),.t (.int .i64 0),.t (.int .i64 0)]:=by rw[e3U,if_neg h];simp only[hl]
theorem e3X {s:List UInt8} (h:¬16384 < s.length) {p e:Nat} (hl:d0X 0 s=.err p e):e3U s=.tup [.t (.sl true []),.t (.int .i64 p),.t (.int .i64 e)]:=by rw[e3U,if_neg h];simp only[hl]
theorem e3Y (sg:Sg) (l:List Tok) (t:Tok):retSl sg (e3M (l++[t]))=some (.sl false ((l++[t]).map e3G)):=by
 cases l with
 |nil=>rfl
 |cons x l=>rfl
theorem e3Z (hg:GlOk gl) (s:List UInt8) {K:PV→Prop}:XcP F gl 53 [.str s] K ⟨⟩↔K (e3U s):=by
 refine Ret.iff (Ret.of F53 rfl ?_)
 simp only[c5T]
 by_cases hb:16384 < s.length
 ·have c1:(16384:Int) < (s.length:Int):=by omega
  simp only[wA,seval,reduceCtorEq,reduceIte,c1]
  repeat' ((with_reducible first|refine c3G ?_ ?_|refine c3H ?_ ?_|refine c3F ?_ ?_|refine c3E ?_ ?_|refine c3C ?_ ?_|refine c3D ?_ ?_|refine c3B ?_ ?_|refine c3A ?_ ?_) <;> intro h <;> (try simp only[wA,seval,reduceCtorEq,reduceIte,c1,h]))
  rw[e3V hb]
 ·have c1:¬((16384:Int) < (s.length:Int)):=by omega
  have a20:∀ {K:PV→Prop},XcP F gl 86 [.str s,.int .i64 0] K ⟨⟩↔K (.t (.int .i64 ((d0Q false s:Nat):Int))):=by
   intro K
   have:=@ok86 gl s (by omega) 0 K
   simp only[g6O,g8Z] at this
   exact this
  simp only[wA,seval,reduceCtorEq,reduceIte,c1,a20]
  repeat' ((with_reducible first|refine c3G ?_ ?_|refine c3H ?_ ?_|refine c3F ?_ ?_|refine c3E ?_ ?_|refine c3C ?_ ?_|refine c3D ?_ ?_|refine c3B ?_ ?_|refine c3A ?_ ?_) <;> intro h <;> (try simp only[wA,seval,reduceCtorEq,reduceIte,c1,a20,h]))
  refine e3T hg (by omega) _ (s.drop 0).length 0 [] _ _ (g8S _) (g9A _) (g8S _) (by simp only[wQ,Nat.reduceEqDiff,reduceIte,e3M,g6O,g8Z]) ?_ ?_
  ·intro l hll fr' sg' hf' hlen
   rw[g6O] at hll
   rw[g8F] at hf' hlen ⊢
   simp only[b9A,b8Z] at hf'
   obtain⟨f0,f5,-⟩:=hf'
   have hlast:=e3S _ _ _ _ rfl hll
   rw[g8Z] at hlast
   have eap:=e3Q l.dropLast ⟨0,[],0,s.length⟩ (by omega)
   simp only[e3G,g6C] at eap
   have hr:=fun sg=>e3Y sg l.dropLast ⟨0,[],0,s.length⟩
   rw[←hlast] at eap hr
   simp only[wA,seval,reduceCtorEq,reduceIte,f0,f5,b6J,a0C,a0M,T.isAgg,List.replicate,g6R,g6S,g6J,eap]
   repeat' ((with_reducible first|refine c3G ?_ ?_|refine c3H ?_ ?_|refine c3F ?_ ?_|refine c3E ?_ ?_|refine c3C ?_ ?_|refine c3D ?_ ?_|refine c3B ?_ ?_|refine c3A ?_ ?_) <;> intro h <;> (try simp only[wA,seval,reduceCtorEq,reduceIte,f0,f5,b6J,a0C,a0M,T.isAgg,List.replicate,g6R,g6S,g6J,eap,h]))
   rw[e3W hb hll]
   cases l with
   |nil=>simp at hlast
   |cons t m=>exact rfl
  ·intro p e hee fr' sg' ow' hf'
   rw[g6O] at hee
   simp only[b9A,b8Z] at hf'
   obtain⟨f2,f3,f4,-⟩:=hf'
   simp only[wA,seval,reduceCtorEq,reduceIte,f2,f3,f4]
   repeat' ((with_reducible first|refine c3G ?_ ?_|refine c3H ?_ ?_|refine c3F ?_ ?_|refine c3E ?_ ?_|refine c3C ?_ ?_|refine c3D ?_ ?_|refine c3B ?_ ?_|refine c3A ?_ ?_) <;> intro h <;> (try simp only[wA,seval,reduceCtorEq,reduceIte,f2,f3,f4,h]))
   rw[e3X hb hee]
end Go.Proofs.YtcbgiabippcpaaaGreatDoor
