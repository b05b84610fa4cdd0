/- Contracts: positions. -/
import Derived.Test.YtdjcnfacjfnakaaGreatK9
import Derived.Test.YtdjcnfacjfnakaaGreatKx19
import Derived.Test.YtdjcnfacjfnakaaGreatKx19
import Derived.Test.YtdjcnfacjfnakaaGreatKx19
set_option maxRecDepth 10000
set_option linter.unusedVariables false
set_option linter.unusedSimpArgs false
namespace Go.Proofs.YtdjcnfacjfnakaaGreat
open Go.Pi Go.Lx Go.Ky Go.Lib
variable {gl:Nat→Option (List T)}
set_option maxHeartbeats 2000000 in
theorem e1K {sg:Sg} {c f n:Nat} {fs:Fs} {ns:Ns} {od:PV} {w:Int} (hk:Ck sg c f n fs ns od w) (e:Exp) (he:exB e=true) (len:Int) (ow:Ow) :
  CallE F gl 208 [.lp c 0,.t (.agg (tEx e)),.t (.int .i64 len)] sg ow fun v sg' ow'=>v=.tup [.t (.bool (d4A ns e len).1),.t (.int .i64 (d4A ns e len).2)]∧Grow sg sg':=by
 refine XcE.of F208 rfl ?_
 simp only[d0Y]
 have hcl:=d4Y hk.c
 have hnl:=d4Y hk.n
 have hc:=hk.c
 have hn:=hk.n
 by_cases o1:e.op=1
 ·have hM:d4A ns e len=(decide (e.val < IntKind.u64.wrap len),0):=by unfold d4A;simp [o1]
  rw[hM]
  simp only[wA,seval,reduceCtorEq,reduceIte,d1Z,o1]
  repeat' ((with_reducible first|refine c4A ?_ ?_|refine c4B ?_ ?_|refine c3Z ?_ ?_|refine c3Y ?_ ?_|refine c3W ?_ ?_|refine c3X ?_ ?_|refine c3V ?_ ?_|refine c3U ?_ ?_) <;> intro h <;> (try simp only[wA,seval,reduceCtorEq,reduceIte,d1Z,o1,h]))
  exact Grow.app _ _
 by_cases o12:e.op=12
 ·obtain⟨a,b,hab⟩:=d5V he (.inr (.inl o12))
  by_cases hb:b.op=1
  ·skip
   cases hop:decide (a.op=2) with
   |false =>
    have hop':¬a.op=2:=g5M hop
    have hM:d4A ns e len=(false,6):=by unfold d4A;simp [o12,hab,hb,hop']
    rw[hM]
    simp only[wA,seval,reduceCtorEq,reduceIte,d1Z,o12,hab,d1X,hb,hop',d5U,d5T,d5S,d5P,a1I]
    repeat' ((with_reducible first|refine c4A ?_ ?_|refine c4B ?_ ?_|refine c3Z ?_ ?_|refine c3Y ?_ ?_|refine c3W ?_ ?_|refine c3X ?_ ?_|refine c3V ?_ ?_|refine c3U ?_ ?_) <;> intro h <;> (try simp only[wA,seval,reduceCtorEq,reduceIte,d1Z,o12,hab,d1X,hb,hop',d5U,d5T,d5S,d5P,a1I,h]))
    exact Grow.app _ _
   |true =>
    have hop':a.op=2:=g5N hop
    cases hl:Ky.look a.name ns with
    |none =>
     have hM:d4A ns e len=(false,4):=by unfold d4A;simp [o12,hab,hb,hop',hl]
     rw[hM]
     simp only[wA,seval,reduceCtorEq,reduceIte,d1Z,o12,hab,d1X,hb,hop',d5U,d5T,d5S,d5P,a1I,d5M hcl,d5M hnl,hc,hn,a1C,d5B,hl,Option.getD_none,Option.isSome_none]
     repeat' ((with_reducible first|refine c4A ?_ ?_|refine c4B ?_ ?_|refine c3Z ?_ ?_|refine c3Y ?_ ?_|refine c3W ?_ ?_|refine c3X ?_ ?_|refine c3V ?_ ?_|refine c3U ?_ ?_) <;> intro h <;> (try simp only[wA,seval,reduceCtorEq,reduceIte,d1Z,o12,hab,d1X,hb,hop',d5U,d5T,d5S,d5P,a1I,d5M hcl,d5M hnl,hc,hn,a1C,d5B,hl,Option.getD_none,Option.isSome_none,h]))
     exact Grow.app _ _
    |some s =>
     cases hlo:s.loop with
     |false =>
      have hM:d4A ns e len=(false,6):=by unfold d4A;simp [o12,hab,hb,hop',hl,hlo]
      rw[hM]
      simp only[wA,seval,reduceCtorEq,reduceIte,d1Z,o12,hab,d1X,hb,hop',d5U,d5T,d5S,d5P,a1I,d5M hcl,d5M hnl,hc,hn,a1C,d5B,hl,g5D,Option.isSome_some,hlo]
      repeat' ((with_reducible first|refine c4A ?_ ?_|refine c4B ?_ ?_|refine c3Z ?_ ?_|refine c3Y ?_ ?_|refine c3W ?_ ?_|refine c3X ?_ ?_|refine c3V ?_ ?_|refine c3U ?_ ?_) <;> intro h <;> (try simp only[wA,seval,reduceCtorEq,reduceIte,d1Z,o12,hab,d1X,hb,hop',d5U,d5T,d5S,d5P,a1I,d5M hcl,d5M hnl,hc,hn,a1C,d5B,hl,g5D,Option.isSome_some,hlo,h]))
      exact Grow.app _ _
     |true =>
      by_cases hlh:s.low=s.high
      ·have hM:d4A ns e len=(true,0):=by unfold d4A;simp [o12,hab,hb,hop',hl,hlo,hlh]
       rw[hM]
       simp only[wA,seval,reduceCtorEq,reduceIte,d1Z,o12,hab,d1X,hb,hop',d5U,d5T,d5S,d5P,a1I,d5M hcl,d5M hnl,hc,hn,a1C,d5B,hl,g5D,Option.isSome_some,hlo,hlh]
       repeat' ((with_reducible first|refine c4A ?_ ?_|refine c4B ?_ ?_|refine c3Z ?_ ?_|refine c3Y ?_ ?_|refine c3W ?_ ?_|refine c3X ?_ ?_|refine c3V ?_ ?_|refine c3U ?_ ?_) <;> intro h <;> (try simp only[wA,seval,reduceCtorEq,reduceIte,d1Z,o12,hab,d1X,hb,hop',d5U,d5T,d5S,d5P,a1I,d5M hcl,d5M hnl,hc,hn,a1C,d5B,hl,g5D,Option.isSome_some,hlo,hlh,h]))
       exact Grow.app _ _
      ·have hM:d4A ns e len=(decide (b.val < IntKind.u64.wrap len)&&decide (IntKind.u64.wrap (IntKind.u64.wrap (IntKind.i64.wrap (s.high - 1))+b.val) < IntKind.u64.wrap len),0):=by unfold d4A;simp [o12,hab,hb,hop',hl,hlo,hlh]
       rw[hM]
       simp only[wA,seval,reduceCtorEq,reduceIte,d1Z,o12,hab,d1X,hb,hop',d5U,d5T,d5S,d5P,a1I,d5M hcl,d5M hnl,hc,hn,a1C,d5B,hl,g5D,Option.isSome_some,hlo,hlh]
       repeat' ((with_reducible first|refine c4A ?_ ?_|refine c4B ?_ ?_|refine c3Z ?_ ?_|refine c3Y ?_ ?_|refine c3W ?_ ?_|refine c3X ?_ ?_|refine c3V ?_ ?_|refine c3U ?_ ?_) <;> intro h <;> (try simp only[wA,seval,reduceCtorEq,reduceIte,d1Z,o12,hab,d1X,hb,hop',d5U,d5T,d5S,d5P,a1I,d5M hcl,d5M hnl,hc,hn,a1C,d5B,hl,g5D,Option.isSome_some,hlo,hlh,h]))
       all_goals simp_all
       all_goals first|exact Grow.app _ _|skip
  ·have hM:d4A ns e len=(false,6):=by unfold d4A;simp [o12,hab,hb]
   rw[hM]
   simp only[wA,seval,reduceCtorEq,reduceIte,d1Z,o12,hab,d1X,hb,d5U,d5T,d5S,d5P,a1I]
   repeat' ((with_reducible first|refine c4A ?_ ?_|refine c4B ?_ ?_|refine c3Z ?_ ?_|refine c3Y ?_ ?_|refine c3W ?_ ?_|refine c3X ?_ ?_|refine c3V ?_ ?_|refine c3U ?_ ?_) <;> intro h <;> (try simp only[wA,seval,reduceCtorEq,reduceIte,d1Z,o12,hab,d1X,hb,d5U,d5T,d5S,d5P,a1I,h]))
   exact Grow.app _ _
 by_cases o13:e.op=13
 ·obtain⟨a,b,hab⟩:=d5V he (.inr (.inr (.inl o13)))
  by_cases hb:b.op=1
  ·skip
   cases hop:decide (a.op=2) with
   |false =>
    have hop':¬a.op=2:=g5M hop
    have hM:d4A ns e len=(false,6):=by unfold d4A;simp [o13,hab,hb,hop']
    rw[hM]
    simp only[wA,seval,reduceCtorEq,reduceIte,d1Z,o13,hab,d1X,hb,hop',d5U,d5T,d5S,d5P,a1I]
    repeat' ((with_reducible first|refine c4A ?_ ?_|refine c4B ?_ ?_|refine c3Z ?_ ?_|refine c3Y ?_ ?_|refine c3W ?_ ?_|refine c3X ?_ ?_|refine c3V ?_ ?_|refine c3U ?_ ?_) <;> intro h <;> (try simp only[wA,seval,reduceCtorEq,reduceIte,d1Z,o13,hab,d1X,hb,hop',d5U,d5T,d5S,d5P,a1I,h]))
    exact Grow.app _ _
   |true =>
    have hop':a.op=2:=g5N hop
    cases hl:Ky.look a.name ns with
    |none =>
     have hM:d4A ns e len=(false,4):=by unfold d4A;simp [o13,hab,hb,hop',hl]
     rw[hM]
     simp only[wA,seval,reduceCtorEq,reduceIte,d1Z,o13,hab,d1X,hb,hop',d5U,d5T,d5S,d5P,a1I,d5M hcl,d5M hnl,hc,hn,a1C,d5B,hl,Option.getD_none,Option.isSome_none]
     repeat' ((with_reducible first|refine c4A ?_ ?_|refine c4B ?_ ?_|refine c3Z ?_ ?_|refine c3Y ?_ ?_|refine c3W ?_ ?_|refine c3X ?_ ?_|refine c3V ?_ ?_|refine c3U ?_ ?_) <;> intro h <;> (try simp only[wA,seval,reduceCtorEq,reduceIte,d1Z,o13,hab,d1X,hb,hop',d5U,d5T,d5S,d5P,a1I,d5M hcl,d5M hnl,hc,hn,a1C,d5B,hl,Option.getD_none,Option.isSome_none,h]))
     exact Grow.app _ _
    |some s =>
     cases hlo:s.loop with
     |false =>
      have hM:d4A ns e len=(false,6):=by unfold d4A;simp [o13,hab,hb,hop',hl,hlo]
      rw[hM]
      simp only[wA,seval,reduceCtorEq,reduceIte,d1Z,o13,hab,d1X,hb,hop',d5U,d5T,d5S,d5P,a1I,d5M hcl,d5M hnl,hc,hn,a1C,d5B,hl,g5D,Option.isSome_some,hlo]
      repeat' ((with_reducible first|refine c4A ?_ ?_|refine c4B ?_ ?_|refine c3Z ?_ ?_|refine c3Y ?_ ?_|refine c3W ?_ ?_|refine c3X ?_ ?_|refine c3V ?_ ?_|refine c3U ?_ ?_) <;> intro h <;> (try simp only[wA,seval,reduceCtorEq,reduceIte,d1Z,o13,hab,d1X,hb,hop',d5U,d5T,d5S,d5P,a1I,d5M hcl,d5M hnl,hc,hn,a1C,d5B,hl,g5D,Option.isSome_some,hlo,h]))
      exact Grow.app _ _
     |true =>
      by_cases hlh:s.low=s.high
      ·have hM:d4A ns e len=(true,0):=by unfold d4A;simp [o13,hab,hb,hop',hl,hlo,hlh]
       rw[hM]
       simp only[wA,seval,reduceCtorEq,reduceIte,d1Z,o13,hab,d1X,hb,hop',d5U,d5T,d5S,d5P,a1I,d5M hcl,d5M hnl,hc,hn,a1C,d5B,hl,g5D,Option.isSome_some,hlo,hlh]
       repeat' ((with_reducible first|refine c4A ?_ ?_|refine c4B ?_ ?_|refine c3Z ?_ ?_|refine c3Y ?_ ?_|refine c3W ?_ ?_|refine c3X ?_ ?_|refine c3V ?_ ?_|refine c3U ?_ ?_) <;> intro h <;> (try simp only[wA,seval,reduceCtorEq,reduceIte,d1Z,o13,hab,d1X,hb,hop',d5U,d5T,d5S,d5P,a1I,d5M hcl,d5M hnl,hc,hn,a1C,d5B,hl,g5D,Option.isSome_some,hlo,hlh,h]))
       exact Grow.app _ _
      ·have hM:d4A ns e len=(decide (b.val≤IntKind.u64.wrap s.low)&&decide (IntKind.u64.wrap (IntKind.u64.wrap (IntKind.i64.wrap (s.high - 1)) - b.val) < IntKind.u64.wrap len),0):=by unfold d4A;simp [o13,hab,hb,hop',hl,hlo,hlh]
       rw[hM]
       simp only[wA,seval,reduceCtorEq,reduceIte,d1Z,o13,hab,d1X,hb,hop',d5U,d5T,d5S,d5P,a1I,d5M hcl,d5M hnl,hc,hn,a1C,d5B,hl,g5D,Option.isSome_some,hlo,hlh]
       repeat' ((with_reducible first|refine c4A ?_ ?_|refine c4B ?_ ?_|refine c3Z ?_ ?_|refine c3Y ?_ ?_|refine c3W ?_ ?_|refine c3X ?_ ?_|refine c3V ?_ ?_|refine c3U ?_ ?_) <;> intro h <;> (try simp only[wA,seval,reduceCtorEq,reduceIte,d1Z,o13,hab,d1X,hb,hop',d5U,d5T,d5S,d5P,a1I,d5M hcl,d5M hnl,hc,hn,a1C,d5B,hl,g5D,Option.isSome_some,hlo,hlh,h]))
       all_goals simp_all
       all_goals first|exact Grow.app _ _|skip
  ·have hM:d4A ns e len=(false,6):=by unfold d4A;simp [o13,hab,hb]
   rw[hM]
   simp only[wA,seval,reduceCtorEq,reduceIte,d1Z,o13,hab,d1X,hb,d5U,d5T,d5S,d5P,a1I]
   repeat' ((with_reducible first|refine c4A ?_ ?_|refine c4B ?_ ?_|refine c3Z ?_ ?_|refine c3Y ?_ ?_|refine c3W ?_ ?_|refine c3X ?_ ?_|refine c3V ?_ ?_|refine c3U ?_ ?_) <;> intro h <;> (try simp only[wA,seval,reduceCtorEq,reduceIte,d1Z,o13,hab,d1X,hb,d5U,d5T,d5S,d5P,a1I,h]))
   exact Grow.app _ _
 cases hop:decide (e.op=2) with
 |false =>
  have hop':¬e.op=2:=g5M hop
  have hM:d4A ns e len=(false,6):=by unfold d4A;simp [o1,o12,o13,hop']
  rw[hM]
  simp only[wA,seval,reduceCtorEq,reduceIte,d1Z,o1,o12,o13,hop',d5U,d5T,d5S,d5P,a1I]
  repeat' ((with_reducible first|refine c4A ?_ ?_|refine c4B ?_ ?_|refine c3Z ?_ ?_|refine c3Y ?_ ?_|refine c3W ?_ ?_|refine c3X ?_ ?_|refine c3V ?_ ?_|refine c3U ?_ ?_) <;> intro h <;> (try simp only[wA,seval,reduceCtorEq,reduceIte,d1Z,o1,o12,o13,hop',d5U,d5T,d5S,d5P,a1I,h]))
  exact Grow.app _ _
 |true =>
  have hop':e.op=2:=g5N hop
  cases hl:Ky.look e.name ns with
  |none =>
   have hM:d4A ns e len=(false,4):=by unfold d4A;simp [o1,o12,o13,hop',hl]
   rw[hM]
   simp only[wA,seval,reduceCtorEq,reduceIte,d1Z,o1,o12,o13,hop',d5U,d5T,d5S,d5P,a1I,d5M hcl,d5M hnl,hc,hn,a1C,d5B,hl,Option.getD_none,Option.isSome_none]
   repeat' ((with_reducible first|refine c4A ?_ ?_|refine c4B ?_ ?_|refine c3Z ?_ ?_|refine c3Y ?_ ?_|refine c3W ?_ ?_|refine c3X ?_ ?_|refine c3V ?_ ?_|refine c3U ?_ ?_) <;> intro h <;> (try simp only[wA,seval,reduceCtorEq,reduceIte,d1Z,o1,o12,o13,hop',d5U,d5T,d5S,d5P,a1I,d5M hcl,d5M hnl,hc,hn,a1C,d5B,hl,Option.getD_none,Option.isSome_none,h]))
   exact Grow.app _ _
  |some s =>
   cases hlo:s.loop with
   |false =>
    have hM:d4A ns e len=(false,6):=by unfold d4A;simp [o1,o12,o13,hop',hl,hlo]
    rw[hM]
    simp only[wA,seval,reduceCtorEq,reduceIte,d1Z,o1,o12,o13,hop',d5U,d5T,d5S,d5P,a1I,d5M hcl,d5M hnl,hc,hn,a1C,d5B,hl,g5D,Option.isSome_some,hlo]
    repeat' ((with_reducible first|refine c4A ?_ ?_|refine c4B ?_ ?_|refine c3Z ?_ ?_|refine c3Y ?_ ?_|refine c3W ?_ ?_|refine c3X ?_ ?_|refine c3V ?_ ?_|refine c3U ?_ ?_) <;> intro h <;> (try simp only[wA,seval,reduceCtorEq,reduceIte,d1Z,o1,o12,o13,hop',d5U,d5T,d5S,d5P,a1I,d5M hcl,d5M hnl,hc,hn,a1C,d5B,hl,g5D,Option.isSome_some,hlo,h]))
    exact Grow.app _ _
   |true =>
    by_cases hlh:s.low=s.high
    ·have hM:d4A ns e len=(true,0):=by unfold d4A;simp [o1,o12,o13,hop',hl,hlo,hlh]
     rw[hM]
     simp only[wA,seval,reduceCtorEq,reduceIte,d1Z,o1,o12,o13,hop',d5U,d5T,d5S,d5P,a1I,d5M hcl,d5M hnl,hc,hn,a1C,d5B,hl,g5D,Option.isSome_some,hlo,hlh]
     repeat' ((with_reducible first|refine c4A ?_ ?_|refine c4B ?_ ?_|refine c3Z ?_ ?_|refine c3Y ?_ ?_|refine c3W ?_ ?_|refine c3X ?_ ?_|refine c3V ?_ ?_|refine c3U ?_ ?_) <;> intro h <;> (try simp only[wA,seval,reduceCtorEq,reduceIte,d1Z,o1,o12,o13,hop',d5U,d5T,d5S,d5P,a1I,d5M hcl,d5M hnl,hc,hn,a1C,d5B,hl,g5D,Option.isSome_some,hlo,hlh,h]))
     exact Grow.app _ _
    ·have hM:d4A ns e len=(decide (0 < IntKind.u64.wrap len)&&decide (IntKind.u64.wrap (IntKind.u64.wrap (IntKind.i64.wrap (s.high - 1))+0) < IntKind.u64.wrap len),0):=by unfold d4A;simp [o1,o12,o13,hop',hl,hlo,hlh]
     rw[hM]
     simp only[wA,seval,reduceCtorEq,reduceIte,d1Z,o1,o12,o13,hop',d5U,d5T,d5S,d5P,a1I,d5M hcl,d5M hnl,hc,hn,a1C,d5B,hl,g5D,Option.isSome_some,hlo,hlh]
     repeat' ((with_reducible first|refine c4A ?_ ?_|refine c4B ?_ ?_|refine c3Z ?_ ?_|refine c3Y ?_ ?_|refine c3W ?_ ?_|refine c3X ?_ ?_|refine c3V ?_ ?_|refine c3U ?_ ?_) <;> intro h <;> (try simp only[wA,seval,reduceCtorEq,reduceIte,d1Z,o1,o12,o13,hop',d5U,d5T,d5S,d5P,a1I,d5M hcl,d5M hnl,hc,hn,a1C,d5B,hl,g5D,Option.isSome_some,hlo,hlh,h]))
     all_goals simp_all
     all_goals first|exact Grow.app _ _|skip
end Go.Proofs.YtdjcnfacjfnakaaGreat

/- Contracts: the type of an expression. -/
namespace Go.Proofs.YtdjcnfacjfnakaaGreat
open Go.Pi Go.Lx Go.Ky Go.Lib
variable {gl:Nat→Option (List T)}
abbrev z3:Bool×List PV:=(false,[.t (.int .i64 0),.t (.int .i64 0),.t (.int .i64 0)])
abbrev cEx (e:Exp):Bool×List PV:=(false,[.t (.int .i64 e.op),.t (.int .u64 e.val),.t (.str e.name),.t (.sl e.nl (d1X e.args))])
def e1L (gl:Nat→Option (List T)) (fs:Fs) (ns:Ns) (e:Exp):Prop :=
 ∀ (sg:Sg) (c f n:Nat) (od:PV) (w:Int) (ow:Ow),Ck sg c f n fs ns od w→CallE F gl 150 [.lp c 0,.t (.agg (tEx e))] sg ow fun v sg' ow'=>v=tRt (exM fs ns e w).1∧sg'[c]?=some (false,[.mp f,.mp n,od,.t (.int .i64 (exM fs ns e w).2)])∧Fr c sg sg'
theorem e1M {fs:Fs} {ns:Ns} {e a b:Exp} (hab:e.args=[a,b]) (ha:e1L gl fs ns a) (hb:exB b=true) {sg:Sg} {c f n:Nat} {od:PV} {w:Int} (hk:Ck sg c f n fs ns od w) (ow:Ow) :
  CallE F gl 187 [.lp c 0,.t (.agg (tEx e))] sg ow fun v sg' ow'=>v=tRt (d4B ns (exM fs ns a w) b).1∧sg'[c]?=some (false,[.mp f,.mp n,od,.t (.int .i64 (d4B ns (exM fs ns a w) b).2)])∧Fr c sg sg':=by
 refine XcE.of F187 rfl ?_
 simp only[c9X]
 have hcl:=d4Y hk.c
 simp only[wA,seval,reduceCtorEq,reduceIte,d1Z,hab,d1X]
 have g0:Grow sg (sg++[(false,[.t (.int .i64 e.op),.t (.int .u64 e.val),.t (.str e.name),.t (.sl e.nl [tEx a,tEx b])]),z3]):=.app _ _
 have hq:=ha _ c f n od w ow (hk.grow g0)
 simp only[d1Z] at hq g0
 refine CallE.mono hq ?_
 rintro v sg' ow' ⟨rfl,hc',hfr⟩
 have i3:(sg++[(false,[PV.t (.int .i64 e.op),.t (.int .u64 e.val),.t (.str e.name),.t (.sl e.nl [[.int .i64 a.op,.int .u64 a.val,.str a.name,.sl a.nl (d1X a.args)],[.int .i64 b.op,.int .u64 b.val,.str b.name,.sl b.nl (d1X b.args)]])]),z3])[sg.length]?=some (false,[PV.t (.int .i64 e.op),.t (.int .u64 e.val),.t (.str e.name),.t (.sl e.nl [[.int .i64 a.op,.int .u64 a.val,.str a.name,.sl a.nl (d1X a.args)],[.int .i64 b.op,.int .u64 b.val,.str b.name,.sl b.nl (d1X b.args)]])]):=by simp
 have i4:(sg++[(false,[PV.t (.int .i64 e.op),.t (.int .u64 e.val),.t (.str e.name),.t (.sl e.nl [[.int .i64 a.op,.int .u64 a.val,.str a.name,.sl a.nl (d1X a.args)],[.int .i64 b.op,.int .u64 b.val,.str b.name,.sl b.nl (d1X b.args)]])]),z3])[sg.length+1]?=some z3:=by simp
 have j3:=hfr.get i3 (by omega)
 have j4:=hfr.get i4 (by omega)
 have l3:=d4Y j3
 have l4:=d4Y j4
 have lc:=d4Y hc'
 have hfr':Fr c sg sg':=(Fr.of g0).trans hfr
 have hk':Ck sg' c f n fs ns od (exM fs ns a w).2:=hk.fr hfr' hc'
 generalize hr:exM fs ns a w=r at *
 obtain⟨⟨t,er⟩,w1⟩:=r
 unfold d4B
 by_cases he:er=0
 ·subst he
  simp only[ne_eq,not_true,if_false]
  simp only[wA,seval,reduceCtorEq,reduceIte,d5M l3,d5M l4,j3,j4,d5I]
  have g1:Grow sg' (sg'++[(false,cTy t)]):=.app _ _
  have hq2:=e1K (gl:=gl) (hk'.grow g1) b hb t.len ow'
  simp only[d1Z] at hq2
  refine CallE.mono hq2 ?_
  rintro v sg2 ow2 ⟨rfl,hg2⟩
  have k3:=hg2.get (g1.get j3)
  have k4:=hg2.get (g1.get j4)
  have k5:=hg2.get (show(sg'++[(false,cTy t)])[sg'.length]?=some (false,cTy t) by simp)
  have kc:=hg2.get (g1.get hc')
  have m4:=d4Y k4
  have hfr2:Fr c sg sg2:=hfr'.trans (Fr.of (g1.trans hg2))
  generalize hp:d4A ns b t.len=q at *
  obtain⟨ins,e2⟩:=q
  have hset:Fr c sg (sg2.set (sg.length+1) (false,[PV.t (.int .i64 t.kind),.t (.int .i64 t.bits),.t (.int .i64 0)])):=by
   refine⟨by simpa using hfr2.1,fun i hi hc=>?_⟩
   rw[g3R (by omega)]
   exact hfr2.2 i hi hc
  have hsc:∀ x,(sg2.set (sg.length+1) x)[c]?=some (false,[.mp f,.mp n,od,.t (.int .i64 w1)]):=fun x=>by
   rw[g3R (by omega)];exact kc
  by_cases he2:e2=0
  ·subst he2
   by_cases htl:t.len=0
   ·simp only[wA,seval,reduceCtorEq,reduceIte,k3,k4,k5,d5I,htl,d5L k4,ne_eq]
    simp [bad,zTy,htl,kc,hfr2]
   ·cases ins with
    |false =>
     simp only[wA,seval,reduceCtorEq,reduceIte,k3,k4,k5,d5I,htl,d5L k4,ne_eq]
     simp [bad,zTy,htl,kc,hfr2]
    |true =>
     simp only[wA,seval,reduceCtorEq,reduceIte,k3,k4,k5,d5I,htl,d4X k4,e0X,ne_eq]
     simp [htl,hsc,hset]
  ·simp only[wA,seval,reduceCtorEq,reduceIte,k3,k4,k5,d5I,he2,d5L k4,ne_eq]
   simp [bad,zTy,he2,kc,hfr2]
 ·simp only[wA,seval,reduceCtorEq,reduceIte,d5M l3,d5M l4,d5N l4,j3,j4,d5I,he,d5L j4,d5M lc]
  simp [he,bad,zTy,d5M lc,hc',hfr'.app]
end Go.Proofs.YtdjcnfacjfnakaaGreat

/- Contracts: the type of an expression, its arguments. -/
namespace Go.Proofs.YtdjcnfacjfnakaaGreat
open Go.Pi Go.Lx Go.Ky Go.Lib
variable {gl:Nat→Option (List T)}
theorem e1N {fs:Fs} {ns:Ns} {e:Exp} (hrec:∀ a,a∈e.args→e1L gl fs ns a) (hn:e.args.length≤B47) {c f n:Nat} {od:PV} {v:PV} {sg0 sgB:Sg} {w0:Int} {b3 b4 a6:Nat} (q3:b3=sg0.length) (q4:b4=sg0.length+1) (q6:a6=sg0.length+2) (hk0:Ck sg0 c f n fs ns od w0) (g0:Grow sg0 sgB)
  (h3:sgB[b3]?=some (cEx e)) (h4:sgB[b4]?=some z3) (hv:0 < e.args.length→v=.ls a6 0 e.args.length 3) (Q:Ex→S→Prop):∀ (l:List Exp) (i:Nat) (done:List Ty) (w:Int) (fr:List PV) (sg:Sg) (ow:Ow),e.args.drop i=l→i≤e.args.length→done.length=i→Fr2 c a6 sgB sg→(0 < e.args.length→Arr sg a6 e.args.length done)→sg[c]?=some (false,[.mp f,.mp n,od,.t (.int .i64 w)]) →
  b9P fr [(0,.lp c 0),(3,.lp b3 0),(4,.lp b4 0),(6,v),(26,.t (.sl e.nl (d1X e.args))),(27,.t (.int .i64 e.args.length)),(28,.t (.int .i64 i))] →
  ((d4C fs ns l w).1.2=0→∀ fr' sg' ow',Fr2 c a6 sgB sg'→(0 < e.args.length→Arr sg' a6 e.args.length (done++(d4C fs ns l w).1.1))→(done++(d4C fs ns l w).1.1).length=e.args.length→sg'[c]?=some (false,[.mp f,.mp n,od,.t (.int .i64 (d4C fs ns l w).2)]) →
   b9P fr' [(0,.lp c 0),(3,.lp b3 0),(4,.lp b4 0),(6,v)]→Q (.exit 0) ⟨fr',sg',ow'⟩) →
  ((d4C fs ns l w).1.2≠0→∀ fr' sg' ow',Fr2 c a6 sgB sg'→sg'[c]?=some (false,[.mp f,.mp n,od,.t (.int .i64 (d4C fs ns l w).2)])→a0A fr' 4=.lp b4 0→a0A fr' 5=.t (.int .i64 (d4C fs ns l w).1.2)→Q .ret ⟨fr',sg',ow'⟩) →
  Xl F gl c8K ⟨fr,sg,ow⟩ Q ⟨⟩:=by
 intro l
 have hcl:=d4Y hk0.c
 have hfl:=d4Y hk0.f
 have hnl:=d4Y hk0.n
 induction l with
 |nil =>
  intro i done w fr sg ow hd hil hdn hg har hc hf k1 k2
  have hd:=b9K hd
  simp only[b9R,b9Q] at hf
  obtain⟨f0,f3,f4,f6,f26,f27,f28,-⟩:=hf
  refine Xl.step ?_
  simp only[c8K]
  have c1:¬((i:Int) < (e.args.length:Int)):=by omega
  have hem:d4C fs ns [] w=(([],0),w):=by rw[d4C]
  simp only[wA,seval,reduceCtorEq,reduceIte,f0,f3,f4,f6,f26,f27,f28,c1]
  rw[hem] at k1
  refine k1 rfl _ _ _ hg ?_ ?_ hc (by simp only[wQ,Nat.reduceEqDiff,reduceIte,f0,f3,f4,f6])
  ·simpa using har
  ·simp;omega
 |cons x l ih =>
  intro i done w fr sg ow hd hil hdn hg har hc hf k1 k2
  obtain⟨hx,hr,hi⟩:=b9J hd
  simp only[b9R,b9Q] at hf
  obtain⟨f0,f3,f4,f6,f26,f27,f28,-⟩:=hf
  refine Xl.step ?_
  simp only[c8K]
  have c1:(i:Int) < (e.args.length:Int):=by omega
  have hpos:0 < e.args.length:=by omega
  have hvv:=hv hpos
  subst hvv
  have hw1:=d5J hi (show e.args.length≤281474976710656 by have:B47=140737488355328:=rfl;omega)
  rw[d6C] at k1 k2
  have gB:=g0.len
  have hk:Ck sg c f n fs ns od w:=(hk0.grow g0).fr2 hg (by omega) (by omega) hc
  have hq:=fun r=>hrec x (g4K hx) (sg++r) c f n od w ow (hk.grow (.app _ r))
  simp only[d1Z] at hq
  simp only[wA,seval,reduceCtorEq,reduceIte,f0,f3,f4,f6,f26,f27,f28,c1,hw1,g2X,hi,d2B,hx,g5F,d1Z]
  refine CallE.mono (hq _) ?_
  rintro v sg' ow' ⟨rfl,hc',hfr⟩
  have hFr:Fr c sg sg':=(Fr.of (.app _ _)).trans hfr
  have hg':Fr2 c a6 sgB sg':=hg.trans (Fr2.of hFr)
  have j4:=hg'.get h4 (by omega) (by omega)
  have m4:=d4Y j4
  have mc:=d4Y hc'
  generalize hxr:exM fs ns x w=q at *
  obtain⟨⟨t,er⟩,w1⟩:=q
  by_cases he:er=0
  ·subst he
   obtain⟨cs,ha,hcs1,hcs2⟩:=(har hpos).get (hFr.2 a6 (d4Y (har hpos).choose_spec.1) (by omega))
   have ma:=d4Y ha
   have hle:i * 3+3≤cs.length:=by omega
   have hp:=Arr.put hcs1 hcs2 (by omega) ma t
   rw[hdn] at hp
   simp only[wA,seval,reduceCtorEq,reduceIte,f0,f3,f4,f6,f26,f27,f28,c1,hw1,g2X,hi,d5M ma,d5N ma,ha,hle]
   simp only[ne_eq,not_true,if_false] at k1 k2
   refine ih (i+1) (done++[t]) w1 _ _ _ hr (by omega) (by simp [hdn]) ((hg'.set _).app _) (fun _=>Arr.get hp (d5M (by simpa using ma) _)) ?_ (by simp only[wQ,Nat.reduceEqDiff,reduceIte,f0,f3,f4,f6,f26,f27]) ?_ ?_
   ·rw[d5M (by simpa using mc),g3R (by omega)];exact hc'
   ·intro h0 fr' sg' ow' x1 x2 x3 x4 x5
    rw[if_neg (by simpa using h0)] at k1
    rw[g3A] at x2 x3
    exact k1 rfl fr' sg' ow' x1 x2 x3 x4 x5
   ·intro h0 fr' sg' ow' x1 x2 x3 x4
    rw[if_pos (by simpa using h0)] at k2
    exact k2 h0 fr' sg' ow' x1 x2 x3 x4
  ·simp only[wA,seval,reduceCtorEq,reduceIte,f0,f3,f4,f6,f26,f27,f28,he,d5M m4,d5N m4,j4,d5L j4]
   rw[if_pos (by simpa using he)] at k2
   exact k2 he _ _ _ (hg'.app _) (by rw[d5M mc];exact hc') (by simp only[wQ,Nat.reduceEqDiff,reduceIte,f4]) (by simp only[wQ,Nat.reduceEqDiff,reduceIte])
theorem e1O {fs:Fs} {ns:Ns}:∀ e,ExpOk e→szE e≤B20→exB e=true→e1L gl fs ns e:=by
 refine Exp.ind fun e ih hxo hok heb=>?_
 have hrec:∀ a,a∈e.args→e1L gl fs ns a:=fun a ha=>ih a ha (by cases hxo with|mk _ h1 h2 h3 h4 h5 h=>exact h a ha) ((d6E hok).2 a ha) (d5Y heb a ha)
 have hn:e.args.length≤B20:=(d6E hok).1
 have hb20:B20=1100000:=rfl
 have hb47:B47=140737488355328:=rfl
 intro sg c f n od w ow hk
 have hcl:=d4Y hk.c
 by_cases o8:e.op=8
 ·obtain⟨a,b,hab⟩:=d5V heb (.inl o8)
  have hM:exM fs ns e w=d4B ns (exM fs ns a w) b:=by rw[d4D,if_pos o8,hab]
  rw[hM]
  refine XcE.of F150 rfl ?_
  simp only[c8L]
  have hq:=fun r=>e1M (gl:=gl) hab (hrec a (by rw[hab];simp)) (d5Y heb b (by rw[hab];simp)) (hk.grow (.app sg r)) ow
  simp only[d1Z,o8] at hq
  simp only[wA,seval,reduceCtorEq,reduceIte,d1Z,o8]
  refine CallE.mono (hq _) ?_
  rintro v sg' ow' ⟨rfl,hc',hfr⟩
  have hFr:Fr c sg sg':=(Fr.of (.app _ _)).trans hfr
  have j4:=hfr.get (i:=sg.length+1) (x:=z3) (by simp) (by omega)
  have m4:=d4Y j4
  generalize hxr:d4B ns (exM fs ns a w) b=q at *
  obtain⟨⟨t,er⟩,w1⟩:=q
  simp only[wA,seval,reduceCtorEq,reduceIte,j4,d4X j4,d5I]
  refine⟨by rw[g3R (by omega)];exact hc',?_⟩
  exact Fr2.fr (a:=sg.length+1) (Fr.refl c sg) ((Fr2.of hFr).set _) (by omega)
 have hM:exM fs ns e w=if (d4C fs ns e.args w).1.2≠0 then (bad (d4C fs ns e.args w).1.2,(d4C fs ns e.args w).2) else opM fs ns e.op e.val e.name (d4C fs ns e.args w).1.1 (d4C fs ns e.args w).2:=by rw[d4D,if_neg o8]
 rw[hM]
 refine XcE.of F150 rfl ?_
 simp only[c8L]
 simp only[wA,seval,reduceCtorEq,reduceIte,d1Z,o8,d2A]
 obtain⟨v,r,ow1,hmk,hv⟩:=d6D (sg++[(false,[.t (.int .i64 e.op),.t (.int .u64 e.val),.t (.str e.name),.t (.sl e.nl (d1X e.args))]),z3]) ow e.args.length hn
 rw[hmk]
 (simp only[wA,seval,reduceCtorEq,reduceIte,d1Z,o8,d2A,g3A])
 have i3:(sg++cEx e::z3::r)[sg.length]?=some (cEx e):=by simp
 have i4:(sg++cEx e::z3::r)[sg.length+1]?=some z3:=by rw[g3J (by omega)];simp
 have hvl:(sg++[(false,[PV.t (.int .i64 e.op),.t (.int .u64 e.val),.t (.str e.name),.t (.sl e.nl (d1X e.args))]),z3]).length=sg.length+2:=by simp
 rw[hvl,g3A] at hv
 refine e1N (sg0:=sg) (sgB:=sg++cEx e::z3::r) hrec (by omega) rfl rfl rfl hk (.app _ _) i3 i4 ?_ _ e.args 0 [] w _ _ _ rfl (by omega) rfl (Fr2.refl _ _ _) ?_ (by rw[d5M hcl];exact hk.c) (by simp only[wQ,Nat.reduceEqDiff,reduceIte];first|done|rfl) ?_ ?_
 ·intro h0
  rcases hv with⟨h1,_⟩|⟨_,h1,_⟩
  ·omega
  ·exact h1
 ·intro h0
  rcases hv with⟨h1,_⟩|⟨_,_,h1⟩
  ·omega
  ·exact h1
 ·intro h0 fr' sg' ow' hg har hlen hc hf
  rw[List.nil_append] at har hlen
  rw[if_neg (by simpa using h0)]
  generalize d4C fs ns e.args w=q at *
  obtain⟨⟨ts,er⟩,w1⟩:=q
  simp only at h0 har hlen hc ⊢
  subst h0
  simp only[b9R,b9Q] at hf
  obtain⟨f0,f3,f4,f6,-⟩:=hf
  have hFr:Fr c sg sg':=Fr2.fr (Fr.of (.app _ _)) hg (by omega)
  have hk':=hk.fr hFr hc
  have j3:=hg.get i3 (by omega) (by omega)
  have j4:=hg.get i4 (by omega) (by omega)
  have m3:=d4Y j3
  have m4:=d4Y j4
  have mc:=d4Y hc
  have mn:=d4Y hk'.n
  have hn':=hk'.n
  have htl:ts.length≤B47:=by omega
  have hs:SlT sg' v ts:=by
   rcases hv with⟨h1,h2⟩|⟨h1,h2,_⟩
   ·exact .inl ⟨g3F (by omega),h2⟩
   ·obtain⟨cs,x1,x2,x3⟩:=har h1
    exact .inr ⟨_,cs,by rw[hlen];exact h2,x1,by rw[hlen];exact x2,x3⟩
  have hfin:∀ (sg2:Sg) (x:Bool×List PV),Fr c sg sg2→Fr c sg (sg2.set (sg.length+1) x):=fun sg2 x h=>Fr2.fr (a:=sg.length+1) (Fr.refl c sg) ((Fr2.of h).set _) (by omega)
  have hfc:∀ (sg2:Sg) (x:Bool×List PV),(sg2.set (sg.length+1) x)[c]?=sg2[c]?:=fun sg2 x=>g3R (by omega)
  clear har hg hv hmk hrec ih
  by_cases o1:e.op=1
  ·have hM:opM fs ns e.op e.val e.name ts w1=((d3Q e.val,0),w1):=by unfold opM;simp [o1]
   rw[hM]
   have hu:U64 e.val:=by cases hxo with|mk _ h1 h2 h3 h4 h5 h=>exact h2
   simp only[wA,seval,reduceCtorEq,reduceIte,f0,f3,f4,f6,j3,j4,d5I,d5M m3,d5M m4,d5N m4,d5M mc,d4X j4,hc,o1,e1B hu]
   first|exact⟨by rw[hfc];exact hc,hfin _ _ hFr⟩|exact⟨rfl,by rw[hfc];exact hc,hfin _ _ hFr⟩
  by_cases o3:e.op=3
  ·have hM:opM fs ns e.op e.val e.name ts w1=((d1W,0),w1):=by unfold opM;simp [o8,o1,o3]
   rw[hM]
   simp only[wA,seval,reduceCtorEq,reduceIte,f0,f3,f4,f6,j3,j4,d5I,d5M m3,d5M m4,d5N m4,d5M mc,d4X j4,hc,o8,o1,o3,e0W]
   first|exact⟨by rw[hfc];exact hc,hfin _ _ hFr⟩|exact⟨rfl,by rw[hfc];exact hc,hfin _ _ hFr⟩
  by_cases o4:e.op=4
  ·have hM:opM fs ns e.op e.val e.name ts w1=((d1W,0),w1):=by unfold opM;simp [o8,o1,o3,o4]
   rw[hM]
   simp only[wA,seval,reduceCtorEq,reduceIte,f0,f3,f4,f6,j3,j4,d5I,d5M m3,d5M m4,d5N m4,d5M mc,d4X j4,hc,o8,o1,o3,o4,e0W]
   first|exact⟨by rw[hfc];exact hc,hfin _ _ hFr⟩|exact⟨rfl,by rw[hfc];exact hc,hfin _ _ hFr⟩
  by_cases o2:e.op=2
  ·cases hl:Ky.look e.name ns with
   |none =>
    have hM:opM fs ns e.op e.val e.name ts w1=(bad 4,w1):=by unfold opM;simp [o8,o1,o3,o4,o2,hl]
    rw[hM]
    simp only[wA,seval,reduceCtorEq,reduceIte,f0,f3,f4,f6,j3,j4,d5I,d5M m3,d5M m4,d5N m4,d5M mc,d4X j4,hc,o8,o1,o3,o4,o2,d5M mn,hn',a1C,d5B,hl,Option.getD_none,Option.isSome_none,d5L j4]
    exact⟨rfl,hFr.app _⟩
   |some sy =>
    have hM:opM fs ns e.op e.val e.name ts w1=((sy.typ,0),w1):=by unfold opM;simp [o8,o1,o3,o4,o2,hl]
    rw[hM]
    simp only[wA,seval,reduceCtorEq,reduceIte,f0,f3,f4,f6,j3,j4,d5I,d5M m3,d5M m4,d5N m4,d5M mc,d4X j4,hc,o8,o1,o3,o4,o2,d5M mn,hn',a1C,d5B,hl,g5D,Option.isSome_some,gsc m4]
    exact⟨by rw[d5M (by simpa using mc),hfc];exact hc,(hfin _ _ hFr).app _⟩
  by_cases o5:e.op=5
  ·have hM:opM fs ns e.op e.val e.name ts w1=(d3V fs e.name ts,w1):=by unfold opM;simp [o8,o1,o3,o4,o2,o5]
   rw[hM]
   simp only[wA,seval,reduceCtorEq,reduceIte,f0,f3,f4,f6,j3,j4,d5I,d5M m3,d5M m4,d5N m4,d5M mc,d4X j4,hc,o8,o1,o3,o4,o2,o5,e0W]
   refine CallE.mono (e1J htl hk' hs e.name ow') ?_
   rintro x sg2 ow2 ⟨rfl,hg2⟩
   have k4:=hg2.get j4
   generalize d3V fs e.name ts=rr at *
   obtain⟨t,er⟩:=rr
   simp only[wA,seval,reduceCtorEq,reduceIte,f0,f3,f4,f6,k4,d4X k4,d5I]
   exact⟨by rw[hfc];exact hg2.get hc,hfin _ _ (hFr.trans (Fr.of hg2))⟩
  by_cases o6:e.op=6
  ·by_cases hv6:65536≤e.val
   ·have hM:opM fs ns e.op e.val e.name ts w1=(bad 8,w1):=by unfold opM;simp [o8,o1,o3,o4,o2,o5,o6,hv6]
    rw[hM]
    simp only[wA,seval,reduceCtorEq,reduceIte,f0,f3,f4,f6,j3,j4,d5I,d5M m3,d5M m4,d5N m4,d5M mc,d4X j4,hc,o8,o1,o3,o4,o2,o5,o6,hv6,d5L j4]
    exact⟨rfl,hFr⟩
   ·have hM:opM fs ns e.op e.val e.name ts w1=(d3T d3R ts d1V,w1):=by unfold opM;simp [o8,o1,o3,o4,o2,o5,o6,hv6]
    rw[hM]
    simp only[wA,seval,reduceCtorEq,reduceIte,f0,f3,f4,f6,j3,j4,d5I,d5M m3,d5M m4,d5N m4,d5M mc,d4X j4,hc,o8,o1,o3,o4,o2,o5,o6,hv6,e0W]
    refine CallE.mono (e1E htl e0Z hs d1V ow') ?_
    rintro x sg2 ow2 ⟨rfl,hg2,-⟩
    have k4:=hg2.get j4
    generalize d3T d3R ts d1V=rr at *
    obtain⟨t,er⟩:=rr
    simp only[wA,seval,reduceCtorEq,reduceIte,f0,f3,f4,f6,k4,d4X k4,d5I]
    exact⟨by rw[hfc];exact hg2.get hc,hfin _ _ (hFr.trans (Fr.of hg2))⟩
  by_cases o7:e.op=7
  ·have hM:opM fs ns e.op e.val e.name ts w1=(d3X ts,w1):=by unfold opM;simp [o8,o1,o3,o4,o2,o5,o6,o7]
   rw[hM]
   simp only[wA,seval,reduceCtorEq,reduceIte,f0,f3,f4,f6,j3,j4,d5I,d5M m3,d5M m4,d5N m4,d5M mc,d4X j4,hc,o8,o1,o3,o4,o2,o5,o6,o7,e0W]
   refine CallE.mono (e1H (by have:=d5X heb o7;omega) htl hs ow') ?_
   rintro x sg2 ow2 ⟨rfl,hg2⟩
   have k4:=hg2.get j4
   generalize d3X ts=rr at *
   obtain⟨t,er⟩:=rr
   simp only[wA,seval,reduceCtorEq,reduceIte,f0,f3,f4,f6,k4,d4X k4,d5I]
   exact⟨by rw[hfc];exact hg2.get hc,hfin _ _ (hFr.trans (Fr.of hg2))⟩
  by_cases o20:e.op=20
  ·obtain⟨xa,xb,xc,hab⟩:=d5W heb o20
   have hl3:ts.length=3:=by rw[hlen,hab];rfl
   obtain⟨t1,t2,t3,rfl⟩:∃ t1 t2 t3,ts=[t1,t2,t3]:=by
    match ts,hl3 with
    |[t1,t2,t3],_=>exact⟨_,_,_,rfl⟩
   obtain⟨a6,cs,rfl,ha6,hcs1,hcs2⟩:∃ a cs,v=.ls a 0 3 3∧sg'[a]?=some (false,cs)∧cs.length=3 * 3∧∀ i t,[t1,t2,t3][i]?=some t→(cs.drop (i * 3)).take 3=[.t (.int .i64 t.kind),.t (.int .i64 t.bits),.t (.int .i64 t.len)]:=by
    rcases hs with⟨h1,_⟩|h1
    ·simp at h1
    ·exact h1
   have hcs:=d6A hcs1 hcs2
   subst hcs
   clear hcs1 hcs2
   have m6:=d4Y ha6
   have hM:opM fs ns e.op e.val e.name [t1,t2,t3] w1=(d3Y t1 t2 t3,w1):=by unfold opM;simp [o8,o1,o3,o4,o2,o5,o6,o7,o20]
   rw[hM]
   simp only[wA,seval,reduceCtorEq,reduceIte,f0,f3,f4,f6,j3,j4,d5I,d5M m3,d5M m4,d5N m4,d5M mc,d4X j4,hc,o8,o1,o3,o4,o2,o5,o6,o7,o20,ha6,d5M m6,e1C]
   exact⟨by rw[hfc];exact hc,hfin _ _ hFr⟩
  by_cases o14:e.op=14
  ·have hM:opM fs ns e.op e.val e.name ts w1=(d3T d3R ts d1W,w1):=by unfold opM;simp [o8,o1,o3,o4,o2,o5,o6,o7,o20,o14]
   rw[hM]
   simp only[wA,seval,reduceCtorEq,reduceIte,f0,f3,f4,f6,j3,j4,d5I,d5M m3,d5M m4,d5N m4,d5M mc,d4X j4,hc,o8,o1,o3,o4,o2,o5,o6,o7,o20,o14,e0W]
   refine CallE.mono (e1E htl e0Z hs d1W ow') ?_
   rintro x sg2 ow2 ⟨rfl,hg2,-⟩
   have k4:=hg2.get j4
   generalize d3T d3R ts d1W=rr at *
   obtain⟨t,er⟩:=rr
   simp only[wA,seval,reduceCtorEq,reduceIte,f0,f3,f4,f6,k4,d4X k4,d5I]
   exact⟨by rw[hfc];exact hg2.get hc,hfin _ _ (hFr.trans (Fr.of hg2))⟩
  by_cases o15:e.op=15
  ·have hM:opM fs ns e.op e.val e.name ts w1=(d3T d3R ts d1W,w1):=by unfold opM;simp [o8,o1,o3,o4,o2,o5,o6,o7,o20,o14,o15]
   rw[hM]
   simp only[wA,seval,reduceCtorEq,reduceIte,f0,f3,f4,f6,j3,j4,d5I,d5M m3,d5M m4,d5N m4,d5M mc,d4X j4,hc,o8,o1,o3,o4,o2,o5,o6,o7,o20,o14,o15,e0W]
   refine CallE.mono (e1E htl e0Z hs d1W ow') ?_
   rintro x sg2 ow2 ⟨rfl,hg2,-⟩
   have k4:=hg2.get j4
   generalize d3T d3R ts d1W=rr at *
   obtain⟨t,er⟩:=rr
   simp only[wA,seval,reduceCtorEq,reduceIte,f0,f3,f4,f6,k4,d4X k4,d5I]
   exact⟨by rw[hfc];exact hg2.get hc,hfin _ _ (hFr.trans (Fr.of hg2))⟩
  by_cases o16:e.op=16
  ·obtain⟨xa,xb,hab⟩:=d5V heb (.inr (.inr (.inr (.inl o16))))
   have hl2:ts.length=2:=by rw[hlen,hab];rfl
   obtain⟨t1,t2,rfl⟩:∃ t1 t2,ts=[t1,t2]:=by
    match ts,hl2 with
    |[t1,t2],_=>exact⟨_,_,rfl⟩
   obtain⟨a6,cs,rfl,ha6,hcs1,hcs2⟩:∃ a cs,v=.ls a 0 2 3∧sg'[a]?=some (false,cs)∧cs.length=2 * 3∧∀ i t,[t1,t2][i]?=some t→(cs.drop (i * 3)).take 3=[.t (.int .i64 t.kind),.t (.int .i64 t.bits),.t (.int .i64 t.len)]:=by
    rcases hs with⟨h1,_⟩|h1
    ·simp at h1
    ·exact h1
   have hcs:=d5Z hcs1 hcs2
   subst hcs
   clear hcs1 hcs2
   have m6:=d4Y ha6
   have hM:opM fs ns e.op e.val e.name [t1,t2] w1=d3Z t1 t2 w1:=by unfold opM;simp [o8,o1,o3,o4,o2,o5,o6,o7,o20,o14,o15,o16]
   rw[hM]
   simp only[wA,seval,reduceCtorEq,reduceIte,f0,f3,f4,f6,j3,j4,d5I,d5M m3,d5M m4,d5N m4,d5M mc,d4X j4,hc,o8,o1,o3,o4,o2,o5,o6,o7,o20,o14,o15,o16,ha6,d5M m6]
   refine CallE.mono (e1F hk' t1 t2 ow') ?_
   rintro x sg2 ow2 ⟨rfl,hc2,hg2⟩
   have k4:=hg2.get j4 (by omega)
   generalize d3Z t1 t2 w1=rr at *
   obtain⟨⟨t,er⟩,w2⟩:=rr
   simp only[wA,seval,reduceCtorEq,reduceIte,f0,f3,f4,f6,k4,d4X k4,d5I]
   exact⟨by rw[hfc];exact hc2,hfin _ _ (hFr.trans hg2)⟩
  by_cases o17:e.op=17
  ·obtain⟨xa,xb,hab⟩:=d5V heb (.inr (.inr (.inr (.inr o17))))
   have hl2:ts.length=2:=by rw[hlen,hab];rfl
   obtain⟨t1,t2,rfl⟩:∃ t1 t2,ts=[t1,t2]:=by
    match ts,hl2 with
    |[t1,t2],_=>exact⟨_,_,rfl⟩
   obtain⟨a6,cs,rfl,ha6,hcs1,hcs2⟩:∃ a cs,v=.ls a 0 2 3∧sg'[a]?=some (false,cs)∧cs.length=2 * 3∧∀ i t,[t1,t2][i]?=some t→(cs.drop (i * 3)).take 3=[.t (.int .i64 t.kind),.t (.int .i64 t.bits),.t (.int .i64 t.len)]:=by
    rcases hs with⟨h1,_⟩|h1
    ·simp at h1
    ·exact h1
   have hcs:=d5Z hcs1 hcs2
   subst hcs
   clear hcs1 hcs2
   have m6:=d4Y ha6
   have hM:opM fs ns e.op e.val e.name [t1,t2] w1=d3Z t1 t2 w1:=by unfold opM;simp [o8,o1,o3,o4,o2,o5,o6,o7,o20,o14,o15,o16,o17]
   rw[hM]
   simp only[wA,seval,reduceCtorEq,reduceIte,f0,f3,f4,f6,j3,j4,d5I,d5M m3,d5M m4,d5N m4,d5M mc,d4X j4,hc,o8,o1,o3,o4,o2,o5,o6,o7,o20,o14,o15,o16,o17,ha6,d5M m6]
   refine CallE.mono (e1F hk' t1 t2 ow') ?_
   rintro x sg2 ow2 ⟨rfl,hc2,hg2⟩
   have k4:=hg2.get j4 (by omega)
   generalize d3Z t1 t2 w1=rr at *
   obtain⟨⟨t,er⟩,w2⟩:=rr
   simp only[wA,seval,reduceCtorEq,reduceIte,f0,f3,f4,f6,k4,d4X k4,d5I]
   exact⟨by rw[hfc];exact hc2,hfin _ _ (hFr.trans hg2)⟩
  by_cases o10:e.op=10
  ·have hM:opM fs ns e.op e.val e.name ts w1=(d3T d3S ts d1W,w1):=by unfold opM;simp [o8,o1,o3,o4,o2,o5,o6,o7,o20,o14,o15,o16,o17,o10]
   rw[hM]
   simp only[wA,seval,reduceCtorEq,reduceIte,f0,f3,f4,f6,j3,j4,d5I,d5M m3,d5M m4,d5N m4,d5M mc,d4X j4,hc,o8,o1,o3,o4,o2,o5,o6,o7,o20,o14,o15,o16,o17,o10,e0W]
   refine CallE.mono (e1E htl e1A hs d1W ow') ?_
   rintro x sg2 ow2 ⟨rfl,hg2,-⟩
   have k4:=hg2.get j4
   generalize d3T d3S ts d1W=rr at *
   obtain⟨t,er⟩:=rr
   simp only[wA,seval,reduceCtorEq,reduceIte,f0,f3,f4,f6,k4,d4X k4,d5I]
   exact⟨by rw[hfc];exact hg2.get hc,hfin _ _ (hFr.trans (Fr.of hg2))⟩
  by_cases o18:e.op=18
  ·have hM:opM fs ns e.op e.val e.name ts w1=(d3T d3S ts d1W,w1):=by unfold opM;simp [o8,o1,o3,o4,o2,o5,o6,o7,o20,o14,o15,o16,o17,o10,o18]
   rw[hM]
   simp only[wA,seval,reduceCtorEq,reduceIte,f0,f3,f4,f6,j3,j4,d5I,d5M m3,d5M m4,d5N m4,d5M mc,d4X j4,hc,o8,o1,o3,o4,o2,o5,o6,o7,o20,o14,o15,o16,o17,o10,o18,e0W]
   refine CallE.mono (e1E htl e1A hs d1W ow') ?_
   rintro x sg2 ow2 ⟨rfl,hg2,-⟩
   have k4:=hg2.get j4
   generalize d3T d3S ts d1W=rr at *
   obtain⟨t,er⟩:=rr
   simp only[wA,seval,reduceCtorEq,reduceIte,f0,f3,f4,f6,k4,d4X k4,d5I]
   exact⟨by rw[hfc];exact hg2.get hc,hfin _ _ (hFr.trans (Fr.of hg2))⟩
  by_cases o19:e.op=19
  ·have hM:opM fs ns e.op e.val e.name ts w1=(d3T d3S ts d1W,w1):=by unfold opM;simp [o8,o1,o3,o4,o2,o5,o6,o7,o20,o14,o15,o16,o17,o10,o18,o19]
   rw[hM]
   simp only[wA,seval,reduceCtorEq,reduceIte,f0,f3,f4,f6,j3,j4,d5I,d5M m3,d5M m4,d5N m4,d5M mc,d4X j4,hc,o8,o1,o3,o4,o2,o5,o6,o7,o20,o14,o15,o16,o17,o10,o18,o19,e0W]
   refine CallE.mono (e1E htl e1A hs d1W ow') ?_
   rintro x sg2 ow2 ⟨rfl,hg2,-⟩
   have k4:=hg2.get j4
   generalize d3T d3S ts d1W=rr at *
   obtain⟨t,er⟩:=rr
   simp only[wA,seval,reduceCtorEq,reduceIte,f0,f3,f4,f6,k4,d4X k4,d5I]
   exact⟨by rw[hfc];exact hg2.get hc,hfin _ _ (hFr.trans (Fr.of hg2))⟩
  have hM:opM fs ns e.op e.val e.name ts w1=(d3T d3R ts d1V,w1):=by unfold opM;simp [o8,o1,o3,o4,o2,o5,o6,o7,o20,o14,o15,o16,o17,o10,o18,o19]
  rw[hM]
  simp only[wA,seval,reduceCtorEq,reduceIte,f0,f3,f4,f6,j3,j4,d5I,d5M m3,d5M m4,d5N m4,d5M mc,d4X j4,hc,o8,o1,o3,o4,o2,o5,o6,o7,o20,o14,o15,o16,o17,o10,o18,o19,e0W]
  refine CallE.mono (e1E htl e0Z hs d1V ow') ?_
  rintro x sg2 ow2 ⟨rfl,hg2,-⟩
  have k4:=hg2.get j4
  generalize d3T d3R ts d1V=rr at *
  obtain⟨t,er⟩:=rr
  simp only[wA,seval,reduceCtorEq,reduceIte,f0,f3,f4,f6,k4,d4X k4,d5I]
  exact⟨by rw[hfc];exact hg2.get hc,hfin _ _ (hFr.trans (Fr.of hg2))⟩
 ·intro h0 fr' sg' ow' hg hc f4 f5
  rw[if_pos (by simpa using h0)]
  generalize d4C fs ns e.args w=q at *
  obtain⟨⟨ts,er⟩,w1⟩:=q
  have j4:=hg.get i4 (by omega) (by omega)
  simp only[wA,seval,reduceCtorEq,reduceIte,f4,f5,j4,d5I]
  exact⟨rfl,hc,Fr2.fr (Fr.of (.app _ _)) hg (by omega)⟩
end Go.Proofs.YtdjcnfacjfnakaaGreat

/- Contracts: names come and go. -/
namespace Go.Proofs.YtdjcnfacjfnakaaGreat
open Go.Pi Go.Lx Go.Ky Go.Lib
variable {gl:Nat→Option (List T)}
theorem e1P {sg:Sg} {c f n:Nat} {fs:Fs} {ns:Ns} {od:PV} {w:Int} (hk:Cs sg c f n fs ns od w) (nm:Nm) (s:Sy) (hn:ns.length < B47 / 32) (ow:Ow) :
  CallE F gl 104 [.lp c 0,.t (.str nm),.t (.agg (tSy s))] sg ow fun v sg' ow'=>d6F c f n fs od sg (d4E nm s ns w) v sg':=by
 refine XcE.of F104 rfl ?_
 simp only[c6Q]
 have hcl:=d4Y hk.ck.c
 have hnl:=d4Y hk.ck.n
 have hc:=hk.ck.c
 have hnn:=hk.ck.n
 have hnc:=hk.ck.nc
 have hrm:a0N (ns.length+1) 16=true:=by
  have:B47=140737488355328:=rfl
  unfold a0N;simp only[g5L];omega
 have hrm0:a0N 1 16=true:=by decide
 have h1:∀ x r,(sg.set n x++r)[c]?=sg[c]?:=fun x r=>by rw[g3I (by simpa using hcl),g3R hnc]
 have h2:∀ x r y,(sg.set n x++r).set c y=(sg.set n x).set c y++r:=fun x r y=>List.set_append_left _ _ (by simpa using hcl)
 have hb:b6V 1 1 [T.str []] [(0,1,.t (.str nm))]=some (.lit [[.str nm]]):=rfl
 unfold d4E d6F
 cases hl:Ky.look nm ns with
 |some x =>
  simp only[wA,seval,reduceCtorEq,reduceIte,d5M hcl,d5M hnl,hc,hnn,a1C,d5B,hl,g5D,Option.isSome_some]
  simp
 |none =>
  have hod:=hk.od.2
  rcases hod with⟨rfl,rfl⟩|⟨oid,cs,rfl,o1,o2,o3,o4,o5⟩
  ·have hmn:=d5C (fun x=>.agg (tSy x)) nm s [] hl
   simp only[wA,seval,reduceCtorEq,reduceIte,d5M hcl,d5M hnl,hc,hnn,a1C,d5B,hl,Option.getD_none,Option.isSome_none,a1D,d5N hnl,hmn,hrm0,a0V,a0L,elems,hb,h1,h2]
   intro _
   refine⟨_,Cs.dec (o:=sg.length+2) (nm:=nm) (s:=s) (cs:=[.t (.str nm)]) hk hl (by simp) ?_ ?_ ?_ rfl (by simp) ?_⟩
   ·rw[gsc (by simpa using hcl)]
    simp
   ·rw[g3I (by simpa using hnl),g3R hnc.symm,g3S hnl];rfl
   ·rw[g3J (by simp)];simp
   ·intro i hi hic hin hib
    rw[g3I (by simpa using hi),g3R (fun e=>hic e.symm),g3R (fun e=>hin e.symm)]
  ·have hmn:=d5C (fun x=>.agg (tSy x)) nm s ns hl
   have hol:=d4Y o2
   have hno:n≠oid:=fun e=>by rw[←e,hnn] at o2;simp at o2
   have h3:∀ x r,(sg.set n x++r)[oid]?=sg[oid]?:=fun x r=>by rw[g3I (by simpa using hol),g3R hno]
   have h4:∀ x r y,(sg.set n x++r).set oid y=(sg.set n x).set oid y++r:=fun x r y=>List.set_append_left _ _ (by simpa using hol)
   have h5:∀ x y r,((sg.set n x).set oid y++r)[c]?=sg[c]?:=fun x y r=>by rw[g3I (by simpa using hcl),g3R o1,g3R hnc]
   have h6:∀ x y r z,((sg.set n x).set oid y++r).set c z=((sg.set n x).set oid y).set c z++r:=fun x y r z=>List.set_append_left _ _ (by simpa using hcl)
   simp only[wA,seval,reduceCtorEq,reduceIte,d5M hcl,d5M hnl,hc,hnn,a1C,d5B,hl,Option.getD_none,Option.isSome_none,a1D,d5N hnl,hmn,hrm,a0V,a0L,elems,hb,h1,h3,h4,h5,h6,o2,o3,o4,g4Z]
   intro _
   refine⟨_,Cs.dec (o:=sg.length+2) (nm:=nm) (s:=s) (cs:=cs.take ns.length++[.t (.str nm)]) hk hl (by simp) ?_ ?_ ?_ (by rw[d6G o4 o5]) (by simp) ?_⟩
   ·rw[gsc (by simpa using hcl)]
    simp
   ·rw[g3I (by simpa using hnl),g3R hnc.symm,g3R (fun e=>hno e.symm),g3S hnl]
   ·rw[g3J (by simp)];simp
   ·intro i hi hic hin hib
    rw[g3I (by simpa using hi),g3R (fun e=>hic e.symm),g3R (fun e=>hib ⟨ns.length,by rw[e]⟩),g3R (fun e=>hin e.symm)]
theorem e1Q {sg:Sg} {c f n:Nat} {fs:Fs} {ns:Ns} {od:PV} {w:Int} (hk:Ck sg c f n fs ns od w) (t:Ty) (ow:Ow) :
  CallE F gl 105 [.lp c 0,.t (.agg (tTy t))] sg ow fun v sg' ow'=>sg'[c]?=some (false,[.mp f,.mp n,od,.t (.int .i64 (d4F t w))])∧Fr c sg sg':=by
 refine XcE.of F105 rfl ?_
 simp only[c6R]
 have hcl:=d4Y hk.c
 have hc:=hk.c
 unfold d4F mx
 simp only[wA,seval,reduceCtorEq,reduceIte,d5M hcl,d5N hcl,hc,mxT]
 repeat' ((with_reducible first|refine c4A ?_ ?_|refine c4B ?_ ?_|refine c3Z ?_ ?_|refine c3Y ?_ ?_|refine c3W ?_ ?_|refine c3X ?_ ?_|refine c3V ?_ ?_|refine c3U ?_ ?_) <;> intro h <;> (try simp only[wA,seval,reduceCtorEq,reduceIte,d5M hcl,d5N hcl,hc,mxT,h]))
 ·exact⟨gsc hcl,Fr.setapp _ _ _ _⟩
 ·exact Fr.of (.app _ _)
theorem e1R {sg0:Sg} {c f n:Nat} {fs:Fs} {ns:Ns} {od:PV} {w:Int} (hk:Cs sg0 c f n fs ns od w) (hn:ns.length≤B47) {m:Nat} (hm:m≤ns.length) {v:PV} {ow:Ow}
  (hv:(ns=[]∧v=.t (.sl true []))∨∃ oid cs,od=.bf oid ns.length 1∧oid≠n∧sg0[oid]?=some (false,cs)∧ns.length≤cs.length∧(∀ (i:Nat) (p:Nm×Sy),ns[i]?=some p→cs[i]?=some (PV.t (T.str p.1)))∧((m=0∧v=.bf oid ns.length 1)∨v=.ls oid m (ns.length - m) 1)) (Q:Ex→S→Prop):∀ (r:Ns) (i:Nat) (fr:List PV) (sg:Sg),ns.drop (m+i)=r→m+i≤ns.length→sg0.length=sg.length→(∀ j,j≠n→sg[j]?=sg0[j]?)→sg[n]?=some (true,d4Z (fun x=>.agg (tSy x)) (ns.take m++r)) →
  b9P fr [(0,.lp c 0),(1,.t (.int .i64 m)),(11,v),(12,.t (.int .i64 ((ns.length - m:Nat):Int))),(13,.t (.int .i64 i))] →
  (∀ fr' sg',sg0.length=sg'.length→(∀ j,j≠n→sg'[j]?=sg0[j]?)→sg'[n]?=some (true,d4Z (fun x=>.agg (tSy x)) (ns.take m))→b9P fr' [(0,.lp c 0),(1,.t (.int .i64 m))]→Q (.exit 0) ⟨fr',sg',ow⟩) →
  Xl F gl c8N ⟨fr,sg,ow⟩ Q ⟨⟩:=by
 intro r
 induction r with
 |nil =>
  intro i fr sg hd hil hlen hg hn' hf k1
  have hd:=b9K hd
  simp only[b9R,b9Q] at hf
  obtain⟨f0,f1,f11,f12,f13,-⟩:=hf
  refine Xl.step ?_
  simp only[c8N]
  have c1:¬((i:Int) < ((ns.length - m:Nat):Int)):=by omega
  simp only[wA,seval,reduceCtorEq,reduceIte,f0,f1,f11,f12,f13,c1]
  refine k1 _ _ hlen hg (by simpa using hn') (by simp only[wQ,Nat.reduceEqDiff,reduceIte,f0,f1])
 |cons x r ih =>
  intro i fr sg hd hil hlen hg hn' hf k1
  obtain⟨hx,hr,hi⟩:=b9J hd
  simp only[b9R,b9Q] at hf
  obtain⟨f0,f1,f11,f12,f13,-⟩:=hf
  rcases hv with⟨rfl,_⟩|⟨oid,cs,h1,h2,h3,h4,h5,hv⟩
  ·simp at hx
  have c1:(i:Int) < ((ns.length - m:Nat):Int):=by omega
  have c2:i < ns.length - m:=by omega
  have hw1:=d5J c2 (show ns.length - m≤281474976710656 by have:B47=140737488355328:=rfl;omega)
  have g3:=(hg oid h2).trans h3
  have gc:=(hg c hk.ck.nc.symm).trans hk.ck.c
  have hcs:=h5 _ _ hx
  have hnl:=d4Y hn'
  have hle:m+i+1≤cs.length:=by omega
  have hdr:(cs.drop (m+i)).take 1=[.t (.str x.1)]:=by
   rw[List.take_one,List.head?_drop,hcs];rfl
  have hnd:=hk.od.1
  have hlk:Ky.look x.1 (ns.take m)=none:=d6H hnd hx (by omega)
  have hmd:=d5E (fun y=>T.agg (tSy y)) x.1 x.2 (ns.take m) r hlk
  refine Xl.step ?_
  simp only[c8N]
  rcases hv with⟨rfl,rfl⟩|rfl
  ·rw[g5A] at hcs hdr hle
   have c3:i < ns.length:=by omega
   have hmd2:a1B 2 (T.str x.1) (d4Z (fun y=>T.agg (tSy y)) (x::r))=d4Z (fun y=>.agg (tSy y)) r:=d5E (fun y=>T.agg (tSy y)) x.1 x.2 [] r rfl
   simp only[wA,seval,reduceCtorEq,reduceIte,c3,f0,f1,f11,f12,f13,c1,c2,hw1,g2X,g3,gc,hle,hdr,hcs,hn',a1E,d5B,hmd,g4Z]
   rw[hmd2]
   refine ih (i+1) _ _ hr (by omega) (by simp;omega) ?_ (by rw[g3S hnl];rfl) (by simp only[wQ,Nat.reduceEqDiff,reduceIte,f0,f1,f11,f12]) k1
   intro j hj
   rw[g3R (fun e=>hj e.symm)]
   exact hg j hj
  ·simp only[wA,seval,reduceCtorEq,reduceIte,f0,f1,f11,f12,f13,c1,c2,hw1,g2X,g3,gc,hle,hdr,hcs,hn',a1E,d5B,hmd,g4Z]
   refine ih (i+1) _ _ hr (by omega) (by simp;omega) ?_ (g3S hnl) (by simp only[wQ,Nat.reduceEqDiff,reduceIte,f0,f1,f11,f12]) k1
   intro j hj
   rw[g3R (fun e=>hj e.symm)]
   exact hg j hj
theorem e1S {sg:Sg} {c f n:Nat} {fs:Fs} {ns:Ns} {od:PV} {w:Int} (hk:Cs sg c f n fs ns od w) (hn:ns.length≤B47) {m:Nat} (hm:m≤ns.length) (ow:Ow) :
  CallE F gl 152 [.lp c 0,.t (.int .i64 m)] sg ow fun v sg' ow'=>∃ od',Cs sg' c f n fs (ns.take m) od' w∧Fq c n od od' sg sg':=by
 refine XcE.of F152 rfl ?_
 simp only[c8O]
 have hcl:=d4Y hk.ck.c
 have hc:=hk.ck.c
 have hnl:=d4Y hk.ck.n
 have hod:=hk.od.2
 rcases hod with⟨rfl,rfl⟩|⟨oid,cs,rfl,o1,o2,o3,o4,o5⟩
 ·have hm0:m=0:=by simpa using hm
  subst hm0
  simp only[wA,seval,reduceCtorEq,reduceIte,hc,a0R,a0Q,g2X]
  refine e1R hk hn (g4U _) (.inl ⟨rfl,rfl⟩) _ [] 0 _ _ rfl (by simp) rfl (fun _ _=>rfl) hk.ck.n (by simp only[wQ,Nat.reduceEqDiff,reduceIte];first|done|exact⟨rfl,rfl⟩|rfl) ?_
  intro fr' sg' hlen hg hn' hf
  simp only[b9R,b9Q] at hf
  obtain⟨f0,f1,-⟩:=hf
  have gc:=(hg c hk.ck.nc.symm).trans hk.ck.c
  simp only[wA,seval,reduceCtorEq,reduceIte,f0,f1,gc,a0R,a0Q,g2X,d5L gc]
  exact⟨_,hk.cut0 hlen hg hn'⟩
 ·have hno:oid≠n:=fun e=>by rw[e,hk.ck.n] at o2;simp at o2
  have hm2:(m:Int)≤(ns.length:Int):=by omega
  have hm3:(0:Int)≤(m:Int):=by omega
  simp only[wA,seval,reduceCtorEq,reduceIte,hc,a0R,g2X,hm,hm2,hm3]
  obtain⟨v,hv1,hv2,hv3⟩:∃ v,(if m=0 then some (PV.bf oid (List.length ns) 1) else some (PV.ls oid (m * 1) (List.length ns - m) 1))=some v∧((m=0∧v=.bf oid ns.length 1)∨v=.ls oid m (ns.length - m) 1)∧lenP false v=some (ns.length - m):=by
   by_cases h0:m=0
   ·subst h0
    exact⟨_,if_pos rfl,.inl ⟨rfl,rfl⟩,rfl⟩
   ·exact⟨_,if_neg h0,.inr (by rw[g4Z]),rfl⟩
  rw[hv1]
  rcases hv2 with⟨rfl,rfl⟩|rfl
  ·(simp only[wA,seval,reduceCtorEq,reduceIte,Nat.sub_zero])
   refine e1R hk hn (g5B _) (.inr ⟨oid,cs,rfl,hno,o2,o4,o5,.inl ⟨rfl,rfl⟩⟩) _ ns 0 _ _ rfl hm rfl (fun _ _=>rfl) hk.ck.n (by simp only[wQ,Nat.reduceEqDiff,reduceIte,Nat.sub_zero];first|done|exact⟨rfl,rfl⟩|rfl) ?_
   intro fr' sg' hlen hg hn' hf
   simp only[b9R,b9Q] at hf
   obtain⟨f0,f1,-⟩:=hf
   have gc:=(hg c hk.ck.nc.symm).trans hk.ck.c
   simp only[wA,seval,reduceCtorEq,reduceIte,f0,f1,gc,a0R,g2X,hm,hm2,hm3]
   have gl:=d4Y gc
   refine⟨_,hk.cut hm o1 o2 o3 o4 o5 (by simpa using hlen) (fun j hj hjc=>by rw[g3R (fun e=>hjc e.symm)];exact hg j hj) (by rw[g3R hk.ck.nc.symm];exact hn') (g3S gl)⟩
  ·have hm4:0≤m:=g5B m
   (simp only[wA,seval,reduceCtorEq,reduceIte,Nat.sub_zero])
   refine e1R hk hn hm (.inr ⟨oid,cs,rfl,hno,o2,o4,o5,.inr rfl⟩) _ (ns.drop m) 0 _ _ rfl hm rfl (fun _ _=>rfl) (by rw[g4P];exact hk.ck.n) (by simp only[wQ,Nat.reduceEqDiff,reduceIte];first|done|rfl) ?_
   intro fr' sg' hlen hg hn' hf
   simp only[b9R,b9Q] at hf
   obtain⟨f0,f1,-⟩:=hf
   have gc:=(hg c hk.ck.nc.symm).trans hk.ck.c
   simp only[wA,seval,reduceCtorEq,reduceIte,f0,f1,gc,a0R,g2X,hm,hm2,hm3,hm4]
   have gl:=d4Y gc
   refine⟨_,hk.cut hm o1 o2 o3 o4 o5 (by simpa using hlen) (fun j hj hjc=>by rw[g3R (fun e=>hjc e.symm)];exact hg j hj) (by rw[g3R hk.ck.nc.symm];exact hn') (g3S gl)⟩
end Go.Proofs.YtdjcnfacjfnakaaGreat
