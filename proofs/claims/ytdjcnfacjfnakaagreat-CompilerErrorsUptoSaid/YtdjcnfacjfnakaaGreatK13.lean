/- Contracts: positions. -/
import Derived.Test.YtdjcnfacjfnakaaGreatK9
import Derived.Test.YtdjcnfacjfnakaaGreatKx19
import Derived.Test.YtdjcnfacjfnakaaGreatKx19
import Derived.Test.YtdjcnfacjfnakaaGreatKx19
set_option maxRecDepth 10000
set_option linter.unusedVariables false
set_option linter.unusedSimpArgs false
namespace Go.Proofs.YtdjcnfacjfnakaaGreat
open Go.Pi Go.Lx Go.Ky Go.Lib
variable {gl:Nat->Option (List T)}
set_option maxHeartbeats 2000000 in
theorem e1P {sg:Sg} {c f n:Nat} {fs:Fs} {ns:Ns} {od:PV} {w:Int} (hk:Ck sg c f n fs ns od w) (e:Exp) (he:exB e=true) (len:Int) (ow:Ow) :
  CallE F gl 208 [.lp c 0,.t (.agg (tEx e)),.t (.int .i64 len)] sg ow λv sg' ow'=>v=.tup [.t (.bool (d3W ns e len).1),.t (.int .i64 (d3W ns e len).2)]/\Grow sg sg':=by
 refine XcE.of F208 rfl ?_
 simp only[d0B]
 have hcl:=d4U hk.c
 have hnl:=d4U hk.n
 have hc:=hk.c
 have hn:=hk.n
 by_cases o1:e.op=1
 ·have hM:d3W ns e len=(decide (e.val < IntKind.u64.wrap len),0):=by unfold d3W;simp [o1]
  rw[hM]
  simp only[wA,seval,d1J,o1]
  repeat' ((with_reducible first|refine c0S ?_ ?_|refine c0T ?_ ?_|refine c0R ?_ ?_|refine c0Q ?_ ?_|refine c0O ?_ ?_|refine c0P ?_ ?_|refine c0N ?_ ?_|refine c0M ?_ ?_) <;> intro h <;> (try simp only[wA,seval,d1J,o1,h]))
  exact Grow.app _ _
 by_cases o12:e.op=12
 ·obtain⟨a,b,hab⟩:=d5R he (.inr (.inl o12))
  by_cases hb:b.op=1
  ·skip
   cases hop:decide (a.op=2) with
   |false =>
    have hop':¬a.op=2:=g7O hop
    have hM:d3W ns e len=(false,6):=by unfold d3W;simp [o12,hab,hb,hop']
    rw[hM]
    simp only[wA,seval,d1J,o12,hab,d1H,hb,hop',d5Q,d5P,d5O,d5L,a1C]
    repeat' ((with_reducible first|refine c0S ?_ ?_|refine c0T ?_ ?_|refine c0R ?_ ?_|refine c0Q ?_ ?_|refine c0O ?_ ?_|refine c0P ?_ ?_|refine c0N ?_ ?_|refine c0M ?_ ?_) <;> intro h <;> (try simp only[wA,seval,d1J,o12,hab,d1H,hb,hop',d5Q,d5P,d5O,d5L,a1C,h]))
    exact Grow.app _ _
   |true =>
    have hop':a.op=2:=g7P hop
    cases hl:Ky.look a.name ns with
    |none =>
     have hM:d3W ns e len=(false,4):=by unfold d3W;simp [o12,hab,hb,hop',hl]
     rw[hM]
     simp only[wA,seval,d1J,o12,hab,d1H,hb,hop',d5Q,d5P,d5O,d5L,a1C,d5I hcl,d5I hnl,hc,hn,a0W,d4X,hl,Option.getD_none,Option.isSome_none]
     repeat' ((with_reducible first|refine c0S ?_ ?_|refine c0T ?_ ?_|refine c0R ?_ ?_|refine c0Q ?_ ?_|refine c0O ?_ ?_|refine c0P ?_ ?_|refine c0N ?_ ?_|refine c0M ?_ ?_) <;> intro h <;> (try simp only[wA,seval,d1J,o12,hab,d1H,hb,hop',d5Q,d5P,d5O,d5L,a1C,d5I hcl,d5I hnl,hc,hn,a0W,d4X,hl,Option.getD_none,Option.isSome_none,h]))
     exact Grow.app _ _
    |some s =>
     cases hlo:s.loop with
     |false =>
      have hM:d3W ns e len=(false,6):=by unfold d3W;simp [o12,hab,hb,hop',hl,hlo]
      rw[hM]
      simp only[wA,seval,d1J,o12,hab,d1H,hb,hop',d5Q,d5P,d5O,d5L,a1C,d5I hcl,d5I hnl,hc,hn,a0W,d4X,hl,g7D,Option.isSome_some,hlo]
      repeat' ((with_reducible first|refine c0S ?_ ?_|refine c0T ?_ ?_|refine c0R ?_ ?_|refine c0Q ?_ ?_|refine c0O ?_ ?_|refine c0P ?_ ?_|refine c0N ?_ ?_|refine c0M ?_ ?_) <;> intro h <;> (try simp only[wA,seval,d1J,o12,hab,d1H,hb,hop',d5Q,d5P,d5O,d5L,a1C,d5I hcl,d5I hnl,hc,hn,a0W,d4X,hl,g7D,Option.isSome_some,hlo,h]))
      exact Grow.app _ _
     |true =>
      by_cases hlh:s.low=s.high
      ·have hM:d3W ns e len=(true,0):=by unfold d3W;simp [o12,hab,hb,hop',hl,hlo,hlh]
       rw[hM]
       simp only[wA,seval,d1J,o12,hab,d1H,hb,hop',d5Q,d5P,d5O,d5L,a1C,d5I hcl,d5I hnl,hc,hn,a0W,d4X,hl,g7D,Option.isSome_some,hlo,hlh]
       repeat' ((with_reducible first|refine c0S ?_ ?_|refine c0T ?_ ?_|refine c0R ?_ ?_|refine c0Q ?_ ?_|refine c0O ?_ ?_|refine c0P ?_ ?_|refine c0N ?_ ?_|refine c0M ?_ ?_) <;> intro h <;> (try simp only[wA,seval,d1J,o12,hab,d1H,hb,hop',d5Q,d5P,d5O,d5L,a1C,d5I hcl,d5I hnl,hc,hn,a0W,d4X,hl,g7D,Option.isSome_some,hlo,hlh,h]))
       exact Grow.app _ _
      ·have hM:d3W ns e len=(decide (b.val < IntKind.u64.wrap len)&&decide (IntKind.u64.wrap (IntKind.u64.wrap (IntKind.i64.wrap (s.high - 1))+b.val) < IntKind.u64.wrap len),0):=by unfold d3W;simp [o12,hab,hb,hop',hl,hlo,hlh]
       rw[hM]
       simp only[wA,seval,d1J,o12,hab,d1H,hb,hop',d5Q,d5P,d5O,d5L,a1C,d5I hcl,d5I hnl,hc,hn,a0W,d4X,hl,g7D,Option.isSome_some,hlo,hlh]
       repeat' ((with_reducible first|refine c0S ?_ ?_|refine c0T ?_ ?_|refine c0R ?_ ?_|refine c0Q ?_ ?_|refine c0O ?_ ?_|refine c0P ?_ ?_|refine c0N ?_ ?_|refine c0M ?_ ?_) <;> intro h <;> (try simp only[wA,seval,d1J,o12,hab,d1H,hb,hop',d5Q,d5P,d5O,d5L,a1C,d5I hcl,d5I hnl,hc,hn,a0W,d4X,hl,g7D,Option.isSome_some,hlo,hlh,h]))
       all_goals simp_all
       all_goals first|exact Grow.app _ _|skip
  ·have hM:d3W ns e len=(false,6):=by unfold d3W;simp [o12,hab,hb]
   rw[hM]
   simp only[wA,seval,d1J,o12,hab,d1H,hb,d5Q,d5P,d5O,d5L,a1C]
   repeat' ((with_reducible first|refine c0S ?_ ?_|refine c0T ?_ ?_|refine c0R ?_ ?_|refine c0Q ?_ ?_|refine c0O ?_ ?_|refine c0P ?_ ?_|refine c0N ?_ ?_|refine c0M ?_ ?_) <;> intro h <;> (try simp only[wA,seval,d1J,o12,hab,d1H,hb,d5Q,d5P,d5O,d5L,a1C,h]))
   exact Grow.app _ _
 by_cases o13:e.op=13
 ·obtain⟨a,b,hab⟩:=d5R he (.inr (.inr (.inl o13)))
  by_cases hb:b.op=1
  ·skip
   cases hop:decide (a.op=2) with
   |false =>
    have hop':¬a.op=2:=g7O hop
    have hM:d3W ns e len=(false,6):=by unfold d3W;simp [o13,hab,hb,hop']
    rw[hM]
    simp only[wA,seval,d1J,o13,hab,d1H,hb,hop',d5Q,d5P,d5O,d5L,a1C]
    repeat' ((with_reducible first|refine c0S ?_ ?_|refine c0T ?_ ?_|refine c0R ?_ ?_|refine c0Q ?_ ?_|refine c0O ?_ ?_|refine c0P ?_ ?_|refine c0N ?_ ?_|refine c0M ?_ ?_) <;> intro h <;> (try simp only[wA,seval,d1J,o13,hab,d1H,hb,hop',d5Q,d5P,d5O,d5L,a1C,h]))
    exact Grow.app _ _
   |true =>
    have hop':a.op=2:=g7P hop
    cases hl:Ky.look a.name ns with
    |none =>
     have hM:d3W ns e len=(false,4):=by unfold d3W;simp [o13,hab,hb,hop',hl]
     rw[hM]
     simp only[wA,seval,d1J,o13,hab,d1H,hb,hop',d5Q,d5P,d5O,d5L,a1C,d5I hcl,d5I hnl,hc,hn,a0W,d4X,hl,Option.getD_none,Option.isSome_none]
     repeat' ((with_reducible first|refine c0S ?_ ?_|refine c0T ?_ ?_|refine c0R ?_ ?_|refine c0Q ?_ ?_|refine c0O ?_ ?_|refine c0P ?_ ?_|refine c0N ?_ ?_|refine c0M ?_ ?_) <;> intro h <;> (try simp only[wA,seval,d1J,o13,hab,d1H,hb,hop',d5Q,d5P,d5O,d5L,a1C,d5I hcl,d5I hnl,hc,hn,a0W,d4X,hl,Option.getD_none,Option.isSome_none,h]))
     exact Grow.app _ _
    |some s =>
     cases hlo:s.loop with
     |false =>
      have hM:d3W ns e len=(false,6):=by unfold d3W;simp [o13,hab,hb,hop',hl,hlo]
      rw[hM]
      simp only[wA,seval,d1J,o13,hab,d1H,hb,hop',d5Q,d5P,d5O,d5L,a1C,d5I hcl,d5I hnl,hc,hn,a0W,d4X,hl,g7D,Option.isSome_some,hlo]
      repeat' ((with_reducible first|refine c0S ?_ ?_|refine c0T ?_ ?_|refine c0R ?_ ?_|refine c0Q ?_ ?_|refine c0O ?_ ?_|refine c0P ?_ ?_|refine c0N ?_ ?_|refine c0M ?_ ?_) <;> intro h <;> (try simp only[wA,seval,d1J,o13,hab,d1H,hb,hop',d5Q,d5P,d5O,d5L,a1C,d5I hcl,d5I hnl,hc,hn,a0W,d4X,hl,g7D,Option.isSome_some,hlo,h]))
      exact Grow.app _ _
     |true =>
      by_cases hlh:s.low=s.high
      ·have hM:d3W ns e len=(true,0):=by unfold d3W;simp [o13,hab,hb,hop',hl,hlo,hlh]
       rw[hM]
       simp only[wA,seval,d1J,o13,hab,d1H,hb,hop',d5Q,d5P,d5O,d5L,a1C,d5I hcl,d5I hnl,hc,hn,a0W,d4X,hl,g7D,Option.isSome_some,hlo,hlh]
       repeat' ((with_reducible first|refine c0S ?_ ?_|refine c0T ?_ ?_|refine c0R ?_ ?_|refine c0Q ?_ ?_|refine c0O ?_ ?_|refine c0P ?_ ?_|refine c0N ?_ ?_|refine c0M ?_ ?_) <;> intro h <;> (try simp only[wA,seval,d1J,o13,hab,d1H,hb,hop',d5Q,d5P,d5O,d5L,a1C,d5I hcl,d5I hnl,hc,hn,a0W,d4X,hl,g7D,Option.isSome_some,hlo,hlh,h]))
       exact Grow.app _ _
      ·have hM:d3W ns e len=(decide (b.val<=IntKind.u64.wrap s.low)&&decide (IntKind.u64.wrap (IntKind.u64.wrap (IntKind.i64.wrap (s.high - 1)) - b.val) < IntKind.u64.wrap len),0):=by unfold d3W;simp [o13,hab,hb,hop',hl,hlo,hlh]
       rw[hM]
       simp only[wA,seval,d1J,o13,hab,d1H,hb,hop',d5Q,d5P,d5O,d5L,a1C,d5I hcl,d5I hnl,hc,hn,a0W,d4X,hl,g7D,Option.isSome_some,hlo,hlh]
       repeat' ((with_reducible first|refine c0S ?_ ?_|refine c0T ?_ ?_|refine c0R ?_ ?_|refine c0Q ?_ ?_|refine c0O ?_ ?_|refine c0P ?_ ?_|refine c0N ?_ ?_|refine c0M ?_ ?_) <;> intro h <;> (try simp only[wA,seval,d1J,o13,hab,d1H,hb,hop',d5Q,d5P,d5O,d5L,a1C,d5I hcl,d5I hnl,hc,hn,a0W,d4X,hl,g7D,Option.isSome_some,hlo,hlh,h]))
       all_goals simp_all
       all_goals first|exact Grow.app _ _|skip
  ·have hM:d3W ns e len=(false,6):=by unfold d3W;simp [o13,hab,hb]
   rw[hM]
   simp only[wA,seval,d1J,o13,hab,d1H,hb,d5Q,d5P,d5O,d5L,a1C]
   repeat' ((with_reducible first|refine c0S ?_ ?_|refine c0T ?_ ?_|refine c0R ?_ ?_|refine c0Q ?_ ?_|refine c0O ?_ ?_|refine c0P ?_ ?_|refine c0N ?_ ?_|refine c0M ?_ ?_) <;> intro h <;> (try simp only[wA,seval,d1J,o13,hab,d1H,hb,d5Q,d5P,d5O,d5L,a1C,h]))
   exact Grow.app _ _
 cases hop:decide (e.op=2) with
 |false =>
  have hop':¬e.op=2:=g7O hop
  have hM:d3W ns e len=(false,6):=by unfold d3W;simp [o1,o12,o13,hop']
  rw[hM]
  simp only[wA,seval,d1J,o1,o12,o13,hop',d5Q,d5P,d5O,d5L,a1C]
  repeat' ((with_reducible first|refine c0S ?_ ?_|refine c0T ?_ ?_|refine c0R ?_ ?_|refine c0Q ?_ ?_|refine c0O ?_ ?_|refine c0P ?_ ?_|refine c0N ?_ ?_|refine c0M ?_ ?_) <;> intro h <;> (try simp only[wA,seval,d1J,o1,o12,o13,hop',d5Q,d5P,d5O,d5L,a1C,h]))
  exact Grow.app _ _
 |true =>
  have hop':e.op=2:=g7P hop
  cases hl:Ky.look e.name ns with
  |none =>
   have hM:d3W ns e len=(false,4):=by unfold d3W;simp [o1,o12,o13,hop',hl]
   rw[hM]
   simp only[wA,seval,d1J,o1,o12,o13,hop',d5Q,d5P,d5O,d5L,a1C,d5I hcl,d5I hnl,hc,hn,a0W,d4X,hl,Option.getD_none,Option.isSome_none]
   repeat' ((with_reducible first|refine c0S ?_ ?_|refine c0T ?_ ?_|refine c0R ?_ ?_|refine c0Q ?_ ?_|refine c0O ?_ ?_|refine c0P ?_ ?_|refine c0N ?_ ?_|refine c0M ?_ ?_) <;> intro h <;> (try simp only[wA,seval,d1J,o1,o12,o13,hop',d5Q,d5P,d5O,d5L,a1C,d5I hcl,d5I hnl,hc,hn,a0W,d4X,hl,Option.getD_none,Option.isSome_none,h]))
   exact Grow.app _ _
  |some s =>
   cases hlo:s.loop with
   |false =>
    have hM:d3W ns e len=(false,6):=by unfold d3W;simp [o1,o12,o13,hop',hl,hlo]
    rw[hM]
    simp only[wA,seval,d1J,o1,o12,o13,hop',d5Q,d5P,d5O,d5L,a1C,d5I hcl,d5I hnl,hc,hn,a0W,d4X,hl,g7D,Option.isSome_some,hlo]
    repeat' ((with_reducible first|refine c0S ?_ ?_|refine c0T ?_ ?_|refine c0R ?_ ?_|refine c0Q ?_ ?_|refine c0O ?_ ?_|refine c0P ?_ ?_|refine c0N ?_ ?_|refine c0M ?_ ?_) <;> intro h <;> (try simp only[wA,seval,d1J,o1,o12,o13,hop',d5Q,d5P,d5O,d5L,a1C,d5I hcl,d5I hnl,hc,hn,a0W,d4X,hl,g7D,Option.isSome_some,hlo,h]))
    exact Grow.app _ _
   |true =>
    by_cases hlh:s.low=s.high
    ·have hM:d3W ns e len=(true,0):=by unfold d3W;simp [o1,o12,o13,hop',hl,hlo,hlh]
     rw[hM]
     simp only[wA,seval,d1J,o1,o12,o13,hop',d5Q,d5P,d5O,d5L,a1C,d5I hcl,d5I hnl,hc,hn,a0W,d4X,hl,g7D,Option.isSome_some,hlo,hlh]
     repeat' ((with_reducible first|refine c0S ?_ ?_|refine c0T ?_ ?_|refine c0R ?_ ?_|refine c0Q ?_ ?_|refine c0O ?_ ?_|refine c0P ?_ ?_|refine c0N ?_ ?_|refine c0M ?_ ?_) <;> intro h <;> (try simp only[wA,seval,d1J,o1,o12,o13,hop',d5Q,d5P,d5O,d5L,a1C,d5I hcl,d5I hnl,hc,hn,a0W,d4X,hl,g7D,Option.isSome_some,hlo,hlh,h]))
     exact Grow.app _ _
    ·have hM:d3W ns e len=(decide (0 < IntKind.u64.wrap len)&&decide (IntKind.u64.wrap (IntKind.u64.wrap (IntKind.i64.wrap (s.high - 1))+0) < IntKind.u64.wrap len),0):=by unfold d3W;simp [o1,o12,o13,hop',hl,hlo,hlh]
     rw[hM]
     simp only[wA,seval,d1J,o1,o12,o13,hop',d5Q,d5P,d5O,d5L,a1C,d5I hcl,d5I hnl,hc,hn,a0W,d4X,hl,g7D,Option.isSome_some,hlo,hlh]
     repeat' ((with_reducible first|refine c0S ?_ ?_|refine c0T ?_ ?_|refine c0R ?_ ?_|refine c0Q ?_ ?_|refine c0O ?_ ?_|refine c0P ?_ ?_|refine c0N ?_ ?_|refine c0M ?_ ?_) <;> intro h <;> (try simp only[wA,seval,d1J,o1,o12,o13,hop',d5Q,d5P,d5O,d5L,a1C,d5I hcl,d5I hnl,hc,hn,a0W,d4X,hl,g7D,Option.isSome_some,hlo,hlh,h]))
     all_goals simp_all
     all_goals first|exact Grow.app _ _|skip
end Go.Proofs.YtdjcnfacjfnakaaGreat

/- Contracts: the type of an expression. -/
namespace Go.Proofs.YtdjcnfacjfnakaaGreat
open Go.Pi Go.Lx Go.Ky Go.Lib
variable {gl:Nat->Option (List T)}
abbrev z3:Bool×List PV:=(false,[.t (.int .i64 0),.t (.int .i64 0),.t (.int .i64 0)])
abbrev cEx (e:Exp):Bool×List PV:=(false,[.t (.int .i64 e.op),.t (.int .u64 e.val),.t (.str e.name),.t (.sl e.nl (d1H e.args))])
def e1Q (gl:Nat->Option (List T)) (fs:Fs) (ns:Ns) (e:Exp):Prop :=
 ∀ (sg:Sg) (c f n:Nat) (od:PV) (w:Int) (ow:Ow),Ck sg c f n fs ns od w->CallE F gl 150 [.lp c 0,.t (.agg (tEx e))] sg ow λv sg' ow'=>v=tRt (exM fs ns e w).1/\sg'[c]?=some (false,[.mp f,.mp n,od,.t (.int .i64 (exM fs ns e w).2)])/\Fr c sg sg'
theorem e1R {fs:Fs} {ns:Ns} {e a b:Exp} (hab:e.args=[a,b]) (ha:e1Q gl fs ns a) (hb:exB b=true) {sg:Sg} {c f n:Nat} {od:PV} {w:Int} (hk:Ck sg c f n fs ns od w) (ow:Ow) :
  CallE F gl 187 [.lp c 0,.t (.agg (tEx e))] sg ow λv sg' ow'=>v=tRt (d3X ns (exM fs ns a w) b).1/\sg'[c]?=some (false,[.mp f,.mp n,od,.t (.int .i64 (d3X ns (exM fs ns a w) b).2)])/\Fr c sg sg':=by
 refine XcE.of F187 rfl ?_
 simp only[c8Y]
 have hcl:=d4U hk.c
 simp only[wA,seval,d1J,hab,d1H]
 have g0:Grow sg (sg++[(false,[.t (.int .i64 e.op),.t (.int .u64 e.val),.t (.str e.name),.t (.sl e.nl [tEx a,tEx b])]),z3]):=.app _ _
 have hq:=ha _ c f n od w ow (hk.grow g0)
 simp only[d1J] at hq g0
 refine CallE.mono hq ?_
 rintro v sg' ow' ⟨rfl,hc',hfr⟩
 have i3:(sg++[(false,[PV.t (.int .i64 e.op),.t (.int .u64 e.val),.t (.str e.name),.t (.sl e.nl [[.int .i64 a.op,.int .u64 a.val,.str a.name,.sl a.nl (d1H a.args)],[.int .i64 b.op,.int .u64 b.val,.str b.name,.sl b.nl (d1H b.args)]])]),z3])[sg.length]?=some (false,[PV.t (.int .i64 e.op),.t (.int .u64 e.val),.t (.str e.name),.t (.sl e.nl [[.int .i64 a.op,.int .u64 a.val,.str a.name,.sl a.nl (d1H a.args)],[.int .i64 b.op,.int .u64 b.val,.str b.name,.sl b.nl (d1H b.args)]])]):=by simp
 have i4:(sg++[(false,[PV.t (.int .i64 e.op),.t (.int .u64 e.val),.t (.str e.name),.t (.sl e.nl [[.int .i64 a.op,.int .u64 a.val,.str a.name,.sl a.nl (d1H a.args)],[.int .i64 b.op,.int .u64 b.val,.str b.name,.sl b.nl (d1H b.args)]])]),z3])[sg.length+1]?=some z3:=by simp
 have j3:=hfr.get i3 (by omega)
 have j4:=hfr.get i4 (by omega)
 have l3:=d4U j3
 have l4:=d4U j4
 have lc:=d4U hc'
 have hfr':Fr c sg sg':=(Fr.of g0).trans hfr
 have hk':Ck sg' c f n fs ns od (exM fs ns a w).2:=hk.fr hfr' hc'
 generalize hr:exM fs ns a w=r at *
 obtain⟨⟨t,er⟩,w1⟩:=r
 unfold d3X
 by_cases he:er=0
 ·subst he
  simp only[ne_eq,not_true,if_false]
  simp only[wA,seval,d5I l3,d5I l4,j3,j4,d5E]
  have g1:Grow sg' (sg'++[(false,cTy t)]):=.app _ _
  have hq2:=e1P (gl:=gl) (hk'.grow g1) b hb t.len ow'
  simp only[d1J] at hq2
  refine CallE.mono hq2 ?_
  rintro v sg2 ow2 ⟨rfl,hg2⟩
  have k3:=hg2.get (g1.get j3)
  have k4:=hg2.get (g1.get j4)
  have k5:=hg2.get (show(sg'++[(false,cTy t)])[sg'.length]?=some (false,cTy t) by simp)
  have kc:=hg2.get (g1.get hc')
  have m4:=d4U k4
  have hfr2:Fr c sg sg2:=hfr'.trans (Fr.of (g1.trans hg2))
  generalize hp:d3W ns b t.len=q at *
  obtain⟨ins,e2⟩:=q
  have hset:Fr c sg (sg2.set (sg.length+1) (false,[PV.t (.int .i64 t.kind),.t (.int .i64 t.bits),.t (.int .i64 0)])):=by
   refine⟨by simpa using hfr2.1,λi hi hc=>?_⟩
   rw[g5S (by omega)]
   exact hfr2.2 i hi hc
  have hsc:∀ x,(sg2.set (sg.length+1) x)[c]?=some (false,[.mp f,.mp n,od,.t (.int .i64 w1)]):=λx=>by
   rw[g5S (by omega)];exact kc
  by_cases he2:e2=0
  ·subst he2
   by_cases htl:t.len=0
   ·simp only[wA,seval,k3,k4,k5,d5E,htl,d5H k4,ne_eq]
    simp [bad,zTy,htl,kc,hfr2]
   ·cases ins with
    |false =>
     simp only[wA,seval,k3,k4,k5,d5E,htl,d5H k4,ne_eq]
     simp [bad,zTy,htl,kc,hfr2]
    |true =>
     simp only[wA,seval,k3,k4,k5,d5E,htl,d4T k4,e1C,ne_eq]
     simp [htl,hsc,hset]
  ·simp only[wA,seval,k3,k4,k5,d5E,he2,d5H k4,ne_eq]
   simp [bad,zTy,he2,kc,hfr2]
 ·simp only[wA,seval,d5I l3,d5I l4,d5J l4,j3,j4,d5E,he,d5H j4,d5I lc]
  simp [he,bad,zTy,d5I lc,hc',hfr'.app]
end Go.Proofs.YtdjcnfacjfnakaaGreat

/- Contracts: the type of an expression, its arguments. -/
namespace Go.Proofs.YtdjcnfacjfnakaaGreat
open Go.Pi Go.Lx Go.Ky Go.Lib
variable {gl:Nat->Option (List T)}
theorem e1S {fs:Fs} {ns:Ns} {e:Exp} (hrec:∀ a,a∈e.args->e1Q gl fs ns a) (hn:e.args.length<=B47) {c f n:Nat} {od:PV} {v:PV} {sg0 sgB:Sg} {w0:Int} {b3 b4 a6:Nat} (q3:b3=sg0.length) (q4:b4=sg0.length+1) (q6:a6=sg0.length+2) (hk0:Ck sg0 c f n fs ns od w0) (g0:Grow sg0 sgB)
  (h3:sgB[b3]?=some (cEx e)) (h4:sgB[b4]?=some z3) (hv:0 < e.args.length->v=.ls a6 0 e.args.length 3) (Q:Ex->S->Prop):∀ (l:List Exp) (i:Nat) (done:List Ty) (w:Int) (fr:List PV) (sg:Sg) (ow:Ow),e.args.drop i=l->i<=e.args.length->done.length=i->Fr2 c a6 sgB sg->(0 < e.args.length->Arr sg a6 e.args.length done)->sg[c]?=some (false,[.mp f,.mp n,od,.t (.int .i64 w)]) ->
  b6S fr [(0,.lp c 0),(3,.lp b3 0),(4,.lp b4 0),(6,v),(26,.t (.sl e.nl (d1H e.args))),(27,.t (.int .i64 e.args.length)),(28,.t (.int .i64 i))] ->
  ((d3Y fs ns l w).1.2=0->∀ fr' sg' ow',Fr2 c a6 sgB sg'->(0 < e.args.length->Arr sg' a6 e.args.length (done++(d3Y fs ns l w).1.1))->(done++(d3Y fs ns l w).1.1).length=e.args.length->sg'[c]?=some (false,[.mp f,.mp n,od,.t (.int .i64 (d3Y fs ns l w).2)]) ->
   b6S fr' [(0,.lp c 0),(3,.lp b3 0),(4,.lp b4 0),(6,v)]->Q (.exit 0) ⟨fr',sg',ow'⟩) ->
  ((d3Y fs ns l w).1.2≠0->∀ fr' sg' ow',Fr2 c a6 sgB sg'->sg'[c]?=some (false,[.mp f,.mp n,od,.t (.int .i64 (d3Y fs ns l w).2)])->a0A fr' 4=.lp b4 0->a0A fr' 5=.t (.int .i64 (d3Y fs ns l w).1.2)->Q .ret ⟨fr',sg',ow'⟩) ->
  Xl F gl c7I ⟨fr,sg,ow⟩ Q ⟨⟩:=by
 intro l
 have hcl:=d4U hk0.c
 have hfl:=d4U hk0.f
 have hnl:=d4U hk0.n
 induction l with
 |nil =>
  intro i done w fr sg ow hd hil hdn hg har hc hf k1 k2
  have hd:=b6N hd
  simp only[b6U,b6T] at hf
  obtain⟨f0,f3,f4,f6,f26,f27,f28,-⟩:=hf
  refine Xl.step ?_
  simp only[c7I]
  have c1:¬((i:Int) < (e.args.length:Int)):=by omega
  have hem:d3Y fs ns [] w=(([],0),w):=by rw[d3Y]
  simp only[wA,seval,f0,f3,f4,f6,f26,f27,f28,c1]
  rw[hem] at k1
  refine k1 rfl _ _ _ hg ?_ ?_ hc (by simp only[wQ,seval,f0,f3,f4,f6])
  ·simpa using har
  ·simp;omega
 |cons x l ih =>
  intro i done w fr sg ow hd hil hdn hg har hc hf k1 k2
  obtain⟨hx,hr,hi⟩:=b6M hd
  simp only[b6U,b6T] at hf
  obtain⟨f0,f3,f4,f6,f26,f27,f28,-⟩:=hf
  refine Xl.step ?_
  simp only[c7I]
  have c1:(i:Int) < (e.args.length:Int):=by omega
  have hpos:0 < e.args.length:=by omega
  have hvv:=hv hpos
  subst hvv
  have hw1:=d5F hi (show e.args.length<=281474976710656 by have:B47=140737488355328:=rfl;omega)
  rw[d5Y] at k1 k2
  have gB:=g0.len
  have hk:Ck sg c f n fs ns od w:=(hk0.grow g0).fr2 hg (by omega) (by omega) hc
  have hq:=λr=>hrec x (g6K hx) (sg++r) c f n od w ow (hk.grow (.app _ r))
  simp only[d1J] at hq
  simp only[wA,seval,f0,f3,f4,f6,f26,f27,f28,c1,hw1,g4Z,hi,d1L,hx,g7F,d1J]
  refine CallE.mono (hq _) ?_
  rintro v sg' ow' ⟨rfl,hc',hfr⟩
  have hFr:Fr c sg sg':=(Fr.of (.app _ _)).trans hfr
  have hg':Fr2 c a6 sgB sg':=hg.trans (Fr2.of hFr)
  have j4:=hg'.get h4 (by omega) (by omega)
  have m4:=d4U j4
  have mc:=d4U hc'
  generalize hxr:exM fs ns x w=q at *
  obtain⟨⟨t,er⟩,w1⟩:=q
  by_cases he:er=0
  ·subst he
   obtain⟨cs,ha,hcs1,hcs2⟩:=(har hpos).get (hFr.2 a6 (d4U (har hpos).choose_spec.1) (by omega))
   have ma:=d4U ha
   have hle:i * 3+3<=cs.length:=by omega
   have hp:=Arr.put hcs1 hcs2 (by omega) ma t
   rw[hdn] at hp
   simp only[wA,seval,f0,f3,f4,f6,f26,f27,f28,c1,hw1,g4Z,hi,d5I ma,d5J ma,ha,hle]
   simp only[ne_eq,not_true,if_false] at k1 k2
   refine ih (i+1) (done++[t]) w1 _ _ _ hr (by omega) (by simp [hdn]) ((hg'.set _).app _) (λ_=>Arr.get hp (d5I (by simpa using ma) _)) ?_ (by simp only[wQ,seval,f0,f3,f4,f6,f26,f27]) ?_ ?_
   ·rw[d5I (by simpa using mc),g5S (by omega)];exact hc'
   ·intro h0 fr' sg' ow' x1 x2 x3 x4 x5
    rw[if_neg (by simpa using h0)] at k1
    rw[g5B] at x2 x3
    exact k1 rfl fr' sg' ow' x1 x2 x3 x4 x5
   ·intro h0 fr' sg' ow' x1 x2 x3 x4
    rw[if_pos (by simpa using h0)] at k2
    exact k2 h0 fr' sg' ow' x1 x2 x3 x4
  ·simp only[wA,seval,f0,f3,f4,f6,f26,f27,f28,he,d5I m4,d5J m4,j4,d5H j4]
   rw[if_pos (by simpa using he)] at k2
   exact k2 he _ _ _ (hg'.app _) (by rw[d5I mc];exact hc') (by simp only[wQ,seval,f4]) (by simp only[wQ,seval])
theorem e1T {fs:Fs} {ns:Ns}:∀ e,ExpOk e->szE e<=B20->exB e=true->e1Q gl fs ns e:=by
 refine Exp.ind λe ih hxo hok heb=>?_
 have hrec:∀ a,a∈e.args->e1Q gl fs ns a:=λa ha=>ih a ha (by cases hxo with|mk _ h1 h2 h3 h4 h5 h=>exact h a ha) ((d6A hok).2 a ha) (d5U heb a ha)
 have hn:e.args.length<=B20:=(d6A hok).1
 have hb20:B20=1100000:=rfl
 have hb47:B47=140737488355328:=rfl
 intro sg c f n od w ow hk
 have hcl:=d4U hk.c
 by_cases o8:e.op=8
 ·obtain⟨a,b,hab⟩:=d5R heb (.inl o8)
  have hM:exM fs ns e w=d3X ns (exM fs ns a w) b:=by rw[d3Z,if_pos o8,hab]
  rw[hM]
  refine XcE.of F150 rfl ?_
  simp only[c7J]
  have hq:=λr=>e1R (gl:=gl) hab (hrec a (by rw[hab];simp)) (d5U heb b (by rw[hab];simp)) (hk.grow (.app sg r)) ow
  simp only[d1J,o8] at hq
  simp only[wA,seval,d1J,o8]
  refine CallE.mono (hq _) ?_
  rintro v sg' ow' ⟨rfl,hc',hfr⟩
  have hFr:Fr c sg sg':=(Fr.of (.app _ _)).trans hfr
  have j4:=hfr.get (i:=sg.length+1) (x:=z3) (by simp) (by omega)
  have m4:=d4U j4
  generalize hxr:d3X ns (exM fs ns a w) b=q at *
  obtain⟨⟨t,er⟩,w1⟩:=q
  simp only[wA,seval,j4,d4T j4,d5E]
  refine⟨by rw[g5S (by omega)];exact hc',?_⟩
  exact Fr2.fr (a:=sg.length+1) (Fr.refl c sg) ((Fr2.of hFr).set _) (by omega)
 have hM:exM fs ns e w=if (d3Y fs ns e.args w).1.2≠0 then (bad (d3Y fs ns e.args w).1.2,(d3Y fs ns e.args w).2) else opM fs ns e.op e.val e.name (d3Y fs ns e.args w).1.1 (d3Y fs ns e.args w).2:=by rw[d3Z,if_neg o8]
 rw[hM]
 refine XcE.of F150 rfl ?_
 simp only[c7J]
 simp only[wA,seval,d1J,o8,d1K]
 obtain⟨v,r,ow1,hmk,hv⟩:=d5Z (sg++[(false,[.t (.int .i64 e.op),.t (.int .u64 e.val),.t (.str e.name),.t (.sl e.nl (d1H e.args))]),z3]) ow e.args.length hn
 rw[hmk]
 (simp only[wA,seval,d1J,o8,d1K,g5B])
 have i3:(sg++cEx e::z3::r)[sg.length]?=some (cEx e):=by simp
 have i4:(sg++cEx e::z3::r)[sg.length+1]?=some z3:=by rw[g5K (by omega)];simp
 have hvl:(sg++[(false,[PV.t (.int .i64 e.op),.t (.int .u64 e.val),.t (.str e.name),.t (.sl e.nl (d1H e.args))]),z3]).length=sg.length+2:=by simp
 rw[hvl,g5B] at hv
 refine e1S (sg0:=sg) (sgB:=sg++cEx e::z3::r) hrec (by omega) rfl rfl rfl hk (.app _ _) i3 i4 ?_ _ e.args 0 [] w _ _ _ rfl (by omega) rfl (Fr2.refl _ _ _) ?_ (by rw[d5I hcl];exact hk.c) (by simp only[wQ,seval];first|done|rfl) ?_ ?_
 ·intro h0
  rcases hv with⟨h1,_⟩|⟨_,h1,_⟩
  ·omega
  ·exact h1
 ·intro h0
  rcases hv with⟨h1,_⟩|⟨_,_,h1⟩
  ·omega
  ·exact h1
 ·intro h0 fr' sg' ow' hg har hlen hc hf
  rw[List.nil_append] at har hlen
  rw[if_neg (by simpa using h0)]
  generalize d3Y fs ns e.args w=q at *
  obtain⟨⟨ts,er⟩,w1⟩:=q
  simp only at h0 har hlen hc ⊢
  subst h0
  simp only[b6U,b6T] at hf
  obtain⟨f0,f3,f4,f6,-⟩:=hf
  have hFr:Fr c sg sg':=Fr2.fr (Fr.of (.app _ _)) hg (by omega)
  have hk':=hk.fr hFr hc
  have j3:=hg.get i3 (by omega) (by omega)
  have j4:=hg.get i4 (by omega) (by omega)
  have m3:=d4U j3
  have m4:=d4U j4
  have mc:=d4U hc
  have mn:=d4U hk'.n
  have hn':=hk'.n
  have htl:ts.length<=B47:=by omega
  have hs:SlT sg' v ts:=by
   rcases hv with⟨h1,h2⟩|⟨h1,h2,_⟩
   ·exact .inl ⟨g5G (by omega),h2⟩
   ·obtain⟨cs,x1,x2,x3⟩:=har h1
    exact .inr ⟨_,cs,by rw[hlen];exact h2,x1,by rw[hlen];exact x2,x3⟩
  have hfin:∀ (sg2:Sg) (x:Bool×List PV),Fr c sg sg2->Fr c sg (sg2.set (sg.length+1) x):=λsg2 x h=>Fr2.fr (a:=sg.length+1) (Fr.refl c sg) ((Fr2.of h).set _) (by omega)
  have hfc:∀ (sg2:Sg) (x:Bool×List PV),(sg2.set (sg.length+1) x)[c]?=sg2[c]?:=λsg2 x=>g5S (by omega)
  clear har hg hv hmk hrec ih
  by_cases o1:e.op=1
  ·have hM:opM fs ns e.op e.val e.name ts w1=((d3M e.val,0),w1):=by unfold opM;simp [o1]
   rw[hM]
   have hu:U64 e.val:=by cases hxo with|mk _ h1 h2 h3 h4 h5 h=>exact h2
   simp only[wA,seval,f0,f3,f4,f6,j3,j4,d5E,d5I m3,d5I m4,d5J m4,d5I mc,d4T j4,hc,o1,e1G hu]
   first|exact⟨by rw[hfc];exact hc,hfin _ _ hFr⟩|exact⟨rfl,by rw[hfc];exact hc,hfin _ _ hFr⟩
  by_cases o3:e.op=3
  ·have hM:opM fs ns e.op e.val e.name ts w1=((d1G,0),w1):=by unfold opM;simp [o8,o1,o3]
   rw[hM]
   simp only[wA,seval,f0,f3,f4,f6,j3,j4,d5E,d5I m3,d5I m4,d5J m4,d5I mc,d4T j4,hc,o8,o1,o3,e1B]
   first|exact⟨by rw[hfc];exact hc,hfin _ _ hFr⟩|exact⟨rfl,by rw[hfc];exact hc,hfin _ _ hFr⟩
  by_cases o4:e.op=4
  ·have hM:opM fs ns e.op e.val e.name ts w1=((d1G,0),w1):=by unfold opM;simp [o8,o1,o3,o4]
   rw[hM]
   simp only[wA,seval,f0,f3,f4,f6,j3,j4,d5E,d5I m3,d5I m4,d5J m4,d5I mc,d4T j4,hc,o8,o1,o3,o4,e1B]
   first|exact⟨by rw[hfc];exact hc,hfin _ _ hFr⟩|exact⟨rfl,by rw[hfc];exact hc,hfin _ _ hFr⟩
  by_cases o2:e.op=2
  ·cases hl:Ky.look e.name ns with
   |none =>
    have hM:opM fs ns e.op e.val e.name ts w1=(bad 4,w1):=by unfold opM;simp [o8,o1,o3,o4,o2,hl]
    rw[hM]
    simp only[wA,seval,f0,f3,f4,f6,j3,j4,d5E,d5I m3,d5I m4,d5J m4,d5I mc,d4T j4,hc,o8,o1,o3,o4,o2,d5I mn,hn',a0W,d4X,hl,Option.getD_none,Option.isSome_none,d5H j4]
    exact⟨rfl,hFr.app _⟩
   |some sy =>
    have hM:opM fs ns e.op e.val e.name ts w1=((sy.typ,0),w1):=by unfold opM;simp [o8,o1,o3,o4,o2,hl]
    rw[hM]
    simp only[wA,seval,f0,f3,f4,f6,j3,j4,d5E,d5I m3,d5I m4,d5J m4,d5I mc,d4T j4,hc,o8,o1,o3,o4,o2,d5I mn,hn',a0W,d4X,hl,g7D,Option.isSome_some,gsc m4]
    exact⟨by rw[d5I (by simpa using mc),hfc];exact hc,(hfin _ _ hFr).app _⟩
  by_cases o5:e.op=5
  ·have hM:opM fs ns e.op e.val e.name ts w1=(d3R fs e.name ts,w1):=by unfold opM;simp [o8,o1,o3,o4,o2,o5]
   rw[hM]
   simp only[wA,seval,f0,f3,f4,f6,j3,j4,d5E,d5I m3,d5I m4,d5J m4,d5I mc,d4T j4,hc,o8,o1,o3,o4,o2,o5,e1B]
   refine CallE.mono (e1O htl hk' hs e.name ow') ?_
   rintro x sg2 ow2 ⟨rfl,hg2⟩
   have k4:=hg2.get j4
   generalize d3R fs e.name ts=rr at *
   obtain⟨t,er⟩:=rr
   simp only[wA,seval,f0,f3,f4,f6,k4,d4T k4,d5E]
   exact⟨by rw[hfc];exact hg2.get hc,hfin _ _ (hFr.trans (Fr.of hg2))⟩
  by_cases o6:e.op=6
  ·by_cases hv6:65536<=e.val
   ·have hM:opM fs ns e.op e.val e.name ts w1=(bad 8,w1):=by unfold opM;simp [o8,o1,o3,o4,o2,o5,o6,hv6]
    rw[hM]
    simp only[wA,seval,f0,f3,f4,f6,j3,j4,d5E,d5I m3,d5I m4,d5J m4,d5I mc,d4T j4,hc,o8,o1,o3,o4,o2,o5,o6,hv6,d5H j4]
    exact⟨rfl,hFr⟩
   ·have hM:opM fs ns e.op e.val e.name ts w1=(d3P d3N ts fieldT,w1):=by unfold opM;simp [o8,o1,o3,o4,o2,o5,o6,hv6]
    rw[hM]
    simp only[wA,seval,f0,f3,f4,f6,j3,j4,d5E,d5I m3,d5I m4,d5J m4,d5I mc,d4T j4,hc,o8,o1,o3,o4,o2,o5,o6,hv6,e1B]
    refine CallE.mono (e1J htl e1E hs fieldT ow') ?_
    rintro x sg2 ow2 ⟨rfl,hg2,-⟩
    have k4:=hg2.get j4
    generalize d3P d3N ts fieldT=rr at *
    obtain⟨t,er⟩:=rr
    simp only[wA,seval,f0,f3,f4,f6,k4,d4T k4,d5E]
    exact⟨by rw[hfc];exact hg2.get hc,hfin _ _ (hFr.trans (Fr.of hg2))⟩
  by_cases o7:e.op=7
  ·have hM:opM fs ns e.op e.val e.name ts w1=(d3T ts,w1):=by unfold opM;simp [o8,o1,o3,o4,o2,o5,o6,o7]
   rw[hM]
   simp only[wA,seval,f0,f3,f4,f6,j3,j4,d5E,d5I m3,d5I m4,d5J m4,d5I mc,d4T j4,hc,o8,o1,o3,o4,o2,o5,o6,o7,e1B]
   refine CallE.mono (e1M (by have:=d5T heb o7;omega) htl hs ow') ?_
   rintro x sg2 ow2 ⟨rfl,hg2⟩
   have k4:=hg2.get j4
   generalize d3T ts=rr at *
   obtain⟨t,er⟩:=rr
   simp only[wA,seval,f0,f3,f4,f6,k4,d4T k4,d5E]
   exact⟨by rw[hfc];exact hg2.get hc,hfin _ _ (hFr.trans (Fr.of hg2))⟩
  by_cases o20:e.op=20
  ·obtain⟨xa,xb,xc,hab⟩:=d5S heb o20
   have hl3:ts.length=3:=by rw[hlen,hab];rfl
   obtain⟨t1,t2,t3,rfl⟩:∃ t1 t2 t3,ts=[t1,t2,t3]:=by
    match ts,hl3 with
    |[t1,t2,t3],_=>exact⟨_,_,_,rfl⟩
   obtain⟨a6,cs,rfl,ha6,hcs1,hcs2⟩:∃ a cs,v=.ls a 0 3 3/\sg'[a]?=some (false,cs)/\cs.length=3 * 3/\∀ i t,[t1,t2,t3][i]?=some t->(cs.drop (i * 3)).take 3=[.t (.int .i64 t.kind),.t (.int .i64 t.bits),.t (.int .i64 t.len)]:=by
    rcases hs with⟨h1,_⟩|h1
    ·simp at h1
    ·exact h1
   have hcs:=d5W hcs1 hcs2
   subst hcs
   clear hcs1 hcs2
   have m6:=d4U ha6
   have hM:opM fs ns e.op e.val e.name [t1,t2,t3] w1=(d3U t1 t2 t3,w1):=by unfold opM;simp [o8,o1,o3,o4,o2,o5,o6,o7,o20]
   rw[hM]
   simp only[wA,seval,f0,f3,f4,f6,j3,j4,d5E,d5I m3,d5I m4,d5J m4,d5I mc,d4T j4,hc,o8,o1,o3,o4,o2,o5,o6,o7,o20,ha6,d5I m6,e1H]
   exact⟨by rw[hfc];exact hc,hfin _ _ hFr⟩
  by_cases o14:e.op=14
  ·have hM:opM fs ns e.op e.val e.name ts w1=(d3P d3N ts d1G,w1):=by unfold opM;simp [o8,o1,o3,o4,o2,o5,o6,o7,o20,o14]
   rw[hM]
   simp only[wA,seval,f0,f3,f4,f6,j3,j4,d5E,d5I m3,d5I m4,d5J m4,d5I mc,d4T j4,hc,o8,o1,o3,o4,o2,o5,o6,o7,o20,o14,e1B]
   refine CallE.mono (e1J htl e1E hs d1G ow') ?_
   rintro x sg2 ow2 ⟨rfl,hg2,-⟩
   have k4:=hg2.get j4
   generalize d3P d3N ts d1G=rr at *
   obtain⟨t,er⟩:=rr
   simp only[wA,seval,f0,f3,f4,f6,k4,d4T k4,d5E]
   exact⟨by rw[hfc];exact hg2.get hc,hfin _ _ (hFr.trans (Fr.of hg2))⟩
  by_cases o15:e.op=15
  ·have hM:opM fs ns e.op e.val e.name ts w1=(d3P d3N ts d1G,w1):=by unfold opM;simp [o8,o1,o3,o4,o2,o5,o6,o7,o20,o14,o15]
   rw[hM]
   simp only[wA,seval,f0,f3,f4,f6,j3,j4,d5E,d5I m3,d5I m4,d5J m4,d5I mc,d4T j4,hc,o8,o1,o3,o4,o2,o5,o6,o7,o20,o14,o15,e1B]
   refine CallE.mono (e1J htl e1E hs d1G ow') ?_
   rintro x sg2 ow2 ⟨rfl,hg2,-⟩
   have k4:=hg2.get j4
   generalize d3P d3N ts d1G=rr at *
   obtain⟨t,er⟩:=rr
   simp only[wA,seval,f0,f3,f4,f6,k4,d4T k4,d5E]
   exact⟨by rw[hfc];exact hg2.get hc,hfin _ _ (hFr.trans (Fr.of hg2))⟩
  by_cases o16:e.op=16
  ·obtain⟨xa,xb,hab⟩:=d5R heb (.inr (.inr (.inr (.inl o16))))
   have hl2:ts.length=2:=by rw[hlen,hab];rfl
   obtain⟨t1,t2,rfl⟩:∃ t1 t2,ts=[t1,t2]:=by
    match ts,hl2 with
    |[t1,t2],_=>exact⟨_,_,rfl⟩
   obtain⟨a6,cs,rfl,ha6,hcs1,hcs2⟩:∃ a cs,v=.ls a 0 2 3/\sg'[a]?=some (false,cs)/\cs.length=2 * 3/\∀ i t,[t1,t2][i]?=some t->(cs.drop (i * 3)).take 3=[.t (.int .i64 t.kind),.t (.int .i64 t.bits),.t (.int .i64 t.len)]:=by
    rcases hs with⟨h1,_⟩|h1
    ·simp at h1
    ·exact h1
   have hcs:=d5V hcs1 hcs2
   subst hcs
   clear hcs1 hcs2
   have m6:=d4U ha6
   have hM:opM fs ns e.op e.val e.name [t1,t2] w1=d3V t1 t2 w1:=by unfold opM;simp [o8,o1,o3,o4,o2,o5,o6,o7,o20,o14,o15,o16]
   rw[hM]
   simp only[wA,seval,f0,f3,f4,f6,j3,j4,d5E,d5I m3,d5I m4,d5J m4,d5I mc,d4T j4,hc,o8,o1,o3,o4,o2,o5,o6,o7,o20,o14,o15,o16,ha6,d5I m6]
   refine CallE.mono (e1K hk' t1 t2 ow') ?_
   rintro x sg2 ow2 ⟨rfl,hc2,hg2⟩
   have k4:=hg2.get j4 (by omega)
   generalize d3V t1 t2 w1=rr at *
   obtain⟨⟨t,er⟩,w2⟩:=rr
   simp only[wA,seval,f0,f3,f4,f6,k4,d4T k4,d5E]
   exact⟨by rw[hfc];exact hc2,hfin _ _ (hFr.trans hg2)⟩
  by_cases o17:e.op=17
  ·obtain⟨xa,xb,hab⟩:=d5R heb (.inr (.inr (.inr (.inr o17))))
   have hl2:ts.length=2:=by rw[hlen,hab];rfl
   obtain⟨t1,t2,rfl⟩:∃ t1 t2,ts=[t1,t2]:=by
    match ts,hl2 with
    |[t1,t2],_=>exact⟨_,_,rfl⟩
   obtain⟨a6,cs,rfl,ha6,hcs1,hcs2⟩:∃ a cs,v=.ls a 0 2 3/\sg'[a]?=some (false,cs)/\cs.length=2 * 3/\∀ i t,[t1,t2][i]?=some t->(cs.drop (i * 3)).take 3=[.t (.int .i64 t.kind),.t (.int .i64 t.bits),.t (.int .i64 t.len)]:=by
    rcases hs with⟨h1,_⟩|h1
    ·simp at h1
    ·exact h1
   have hcs:=d5V hcs1 hcs2
   subst hcs
   clear hcs1 hcs2
   have m6:=d4U ha6
   have hM:opM fs ns e.op e.val e.name [t1,t2] w1=d3V t1 t2 w1:=by unfold opM;simp [o8,o1,o3,o4,o2,o5,o6,o7,o20,o14,o15,o16,o17]
   rw[hM]
   simp only[wA,seval,f0,f3,f4,f6,j3,j4,d5E,d5I m3,d5I m4,d5J m4,d5I mc,d4T j4,hc,o8,o1,o3,o4,o2,o5,o6,o7,o20,o14,o15,o16,o17,ha6,d5I m6]
   refine CallE.mono (e1K hk' t1 t2 ow') ?_
   rintro x sg2 ow2 ⟨rfl,hc2,hg2⟩
   have k4:=hg2.get j4 (by omega)
   generalize d3V t1 t2 w1=rr at *
   obtain⟨⟨t,er⟩,w2⟩:=rr
   simp only[wA,seval,f0,f3,f4,f6,k4,d4T k4,d5E]
   exact⟨by rw[hfc];exact hc2,hfin _ _ (hFr.trans hg2)⟩
  by_cases o10:e.op=10
  ·have hM:opM fs ns e.op e.val e.name ts w1=(d3P d3O ts d1G,w1):=by unfold opM;simp [o8,o1,o3,o4,o2,o5,o6,o7,o20,o14,o15,o16,o17,o10]
   rw[hM]
   simp only[wA,seval,f0,f3,f4,f6,j3,j4,d5E,d5I m3,d5I m4,d5J m4,d5I mc,d4T j4,hc,o8,o1,o3,o4,o2,o5,o6,o7,o20,o14,o15,o16,o17,o10,e1B]
   refine CallE.mono (e1J htl e1F hs d1G ow') ?_
   rintro x sg2 ow2 ⟨rfl,hg2,-⟩
   have k4:=hg2.get j4
   generalize d3P d3O ts d1G=rr at *
   obtain⟨t,er⟩:=rr
   simp only[wA,seval,f0,f3,f4,f6,k4,d4T k4,d5E]
   exact⟨by rw[hfc];exact hg2.get hc,hfin _ _ (hFr.trans (Fr.of hg2))⟩
  by_cases o18:e.op=18
  ·have hM:opM fs ns e.op e.val e.name ts w1=(d3P d3O ts d1G,w1):=by unfold opM;simp [o8,o1,o3,o4,o2,o5,o6,o7,o20,o14,o15,o16,o17,o10,o18]
   rw[hM]
   simp only[wA,seval,f0,f3,f4,f6,j3,j4,d5E,d5I m3,d5I m4,d5J m4,d5I mc,d4T j4,hc,o8,o1,o3,o4,o2,o5,o6,o7,o20,o14,o15,o16,o17,o10,o18,e1B]
   refine CallE.mono (e1J htl e1F hs d1G ow') ?_
   rintro x sg2 ow2 ⟨rfl,hg2,-⟩
   have k4:=hg2.get j4
   generalize d3P d3O ts d1G=rr at *
   obtain⟨t,er⟩:=rr
   simp only[wA,seval,f0,f3,f4,f6,k4,d4T k4,d5E]
   exact⟨by rw[hfc];exact hg2.get hc,hfin _ _ (hFr.trans (Fr.of hg2))⟩
  by_cases o19:e.op=19
  ·have hM:opM fs ns e.op e.val e.name ts w1=(d3P d3O ts d1G,w1):=by unfold opM;simp [o8,o1,o3,o4,o2,o5,o6,o7,o20,o14,o15,o16,o17,o10,o18,o19]
   rw[hM]
   simp only[wA,seval,f0,f3,f4,f6,j3,j4,d5E,d5I m3,d5I m4,d5J m4,d5I mc,d4T j4,hc,o8,o1,o3,o4,o2,o5,o6,o7,o20,o14,o15,o16,o17,o10,o18,o19,e1B]
   refine CallE.mono (e1J htl e1F hs d1G ow') ?_
   rintro x sg2 ow2 ⟨rfl,hg2,-⟩
   have k4:=hg2.get j4
   generalize d3P d3O ts d1G=rr at *
   obtain⟨t,er⟩:=rr
   simp only[wA,seval,f0,f3,f4,f6,k4,d4T k4,d5E]
   exact⟨by rw[hfc];exact hg2.get hc,hfin _ _ (hFr.trans (Fr.of hg2))⟩
  have hM:opM fs ns e.op e.val e.name ts w1=(d3P d3N ts fieldT,w1):=by unfold opM;simp [o8,o1,o3,o4,o2,o5,o6,o7,o20,o14,o15,o16,o17,o10,o18,o19]
  rw[hM]
  simp only[wA,seval,f0,f3,f4,f6,j3,j4,d5E,d5I m3,d5I m4,d5J m4,d5I mc,d4T j4,hc,o8,o1,o3,o4,o2,o5,o6,o7,o20,o14,o15,o16,o17,o10,o18,o19,e1B]
  refine CallE.mono (e1J htl e1E hs fieldT ow') ?_
  rintro x sg2 ow2 ⟨rfl,hg2,-⟩
  have k4:=hg2.get j4
  generalize d3P d3N ts fieldT=rr at *
  obtain⟨t,er⟩:=rr
  simp only[wA,seval,f0,f3,f4,f6,k4,d4T k4,d5E]
  exact⟨by rw[hfc];exact hg2.get hc,hfin _ _ (hFr.trans (Fr.of hg2))⟩
 ·intro h0 fr' sg' ow' hg hc f4 f5
  rw[if_pos (by simpa using h0)]
  generalize d3Y fs ns e.args w=q at *
  obtain⟨⟨ts,er⟩,w1⟩:=q
  have j4:=hg.get i4 (by omega) (by omega)
  simp only[wA,seval,f4,f5,j4,d5E]
  exact⟨rfl,hc,Fr2.fr (Fr.of (.app _ _)) hg (by omega)⟩
end Go.Proofs.YtdjcnfacjfnakaaGreat

/- Contracts: names come and go. -/
namespace Go.Proofs.YtdjcnfacjfnakaaGreat
open Go.Pi Go.Lx Go.Ky Go.Lib
variable {gl:Nat->Option (List T)}
theorem e1U {sg:Sg} {c f n:Nat} {fs:Fs} {ns:Ns} {od:PV} {w:Int} (hk:Cs sg c f n fs ns od w) (nm:Nm) (s:Sy) (hn:ns.length < B47 / 32) (ow:Ow) :
  CallE F gl 104 [.lp c 0,.t (.str nm),.t (.agg (tSy s))] sg ow λv sg' ow'=>d6B c f n fs od sg (d4A nm s ns w) v sg':=by
 refine XcE.of F104 rfl ?_
 simp only[c5I]
 have hcl:=d4U hk.ck.c
 have hnl:=d4U hk.ck.n
 have hc:=hk.ck.c
 have hnn:=hk.ck.n
 have hnc:=hk.ck.nc
 have hrm:a0M (ns.length+1) 16=true:=by
  have:B47=140737488355328:=rfl
  unfold a0M;simp only[g7L];omega
 have hrm0:a0M 1 16=true:=by decide
 have h1:∀ x r,(sg.set n x++r)[c]?=sg[c]?:=λx r=>by rw[g5J (by simpa using hcl),g5S hnc]
 have h2:∀ x r y,(sg.set n x++r).set c y=(sg.set n x).set c y++r:=λx r y=>List.set_append_left _ _ (by simpa using hcl)
 have hb:b4J 1 1 [T.str []] [(0,1,.t (.str nm))]=some (.lit [[.str nm]]):=rfl
 unfold d4A d6B
 cases hl:Ky.look nm ns with
 |some x =>
  simp only[wA,seval,d5I hcl,d5I hnl,hc,hnn,a0W,d4X,hl,g7D,Option.isSome_some]
  simp
 |none =>
  have hod:=hk.od.2
  rcases hod with⟨rfl,rfl⟩|⟨oid,cs,rfl,o1,o2,o3,o4,o5⟩
  ·have hmn:=d4Y (λx=>.agg (tSy x)) nm s [] hl
   simp only[wA,seval,d5I hcl,d5I hnl,hc,hnn,a0W,d4X,hl,Option.getD_none,Option.isSome_none,a0X,d5J hnl,hmn,hrm0,a0S,a0K,elems,hb,h1,h2]
   intro _
   refine⟨_,Cs.dec (o:=sg.length+2) (nm:=nm) (s:=s) (cs:=[.t (.str nm)]) hk hl (by simp) ?_ ?_ ?_ rfl (by simp) ?_⟩
   ·rw[gsc (by simpa using hcl)]
    simp
   ·rw[g5J (by simpa using hnl),g5S hnc.symm,g5T hnl];rfl
   ·rw[g5K (by simp)];simp
   ·intro i hi hic hin hib
    rw[g5J (by simpa using hi),g5S (λe=>hic e.symm),g5S (λe=>hin e.symm)]
  ·have hmn:=d4Y (λx=>.agg (tSy x)) nm s ns hl
   have hol:=d4U o2
   have hno:n≠oid:=λe=>by rw[<-e,hnn] at o2;simp at o2
   have h3:∀ x r,(sg.set n x++r)[oid]?=sg[oid]?:=λx r=>by rw[g5J (by simpa using hol),g5S hno]
   have h4:∀ x r y,(sg.set n x++r).set oid y=(sg.set n x).set oid y++r:=λx r y=>List.set_append_left _ _ (by simpa using hol)
   have h5:∀ x y r,((sg.set n x).set oid y++r)[c]?=sg[c]?:=λx y r=>by rw[g5J (by simpa using hcl),g5S o1,g5S hnc]
   have h6:∀ x y r z,((sg.set n x).set oid y++r).set c z=((sg.set n x).set oid y).set c z++r:=λx y r z=>List.set_append_left _ _ (by simpa using hcl)
   simp only[wA,seval,d5I hcl,d5I hnl,hc,hnn,a0W,d4X,hl,Option.getD_none,Option.isSome_none,a0X,d5J hnl,hmn,hrm,a0S,a0K,elems,hb,h1,h3,h4,h5,h6,o2,o3,o4,g6Z]
   intro _
   refine⟨_,Cs.dec (o:=sg.length+2) (nm:=nm) (s:=s) (cs:=cs.take ns.length++[.t (.str nm)]) hk hl (by simp) ?_ ?_ ?_ (by rw[d6C o4 o5]) (by simp) ?_⟩
   ·rw[gsc (by simpa using hcl)]
    simp
   ·rw[g5J (by simpa using hnl),g5S hnc.symm,g5S (λe=>hno e.symm),g5T hnl]
   ·rw[g5K (by simp)];simp
   ·intro i hi hic hin hib
    rw[g5J (by simpa using hi),g5S (λe=>hic e.symm),g5S (λe=>hib ⟨ns.length,by rw[e]⟩),g5S (λe=>hin e.symm)]
theorem e1V {sg:Sg} {c f n:Nat} {fs:Fs} {ns:Ns} {od:PV} {w:Int} (hk:Ck sg c f n fs ns od w) (t:Ty) (ow:Ow) :
  CallE F gl 105 [.lp c 0,.t (.agg (tTy t))] sg ow λv sg' ow'=>sg'[c]?=some (false,[.mp f,.mp n,od,.t (.int .i64 (d4B t w))])/\Fr c sg sg':=by
 refine XcE.of F105 rfl ?_
 simp only[c5J]
 have hcl:=d4U hk.c
 have hc:=hk.c
 unfold d4B mx
 simp only[wA,seval,d5I hcl,d5J hcl,hc,mxT]
 repeat' ((with_reducible first|refine c0S ?_ ?_|refine c0T ?_ ?_|refine c0R ?_ ?_|refine c0Q ?_ ?_|refine c0O ?_ ?_|refine c0P ?_ ?_|refine c0N ?_ ?_|refine c0M ?_ ?_) <;> intro h <;> (try simp only[wA,seval,d5I hcl,d5J hcl,hc,mxT,h]))
 ·exact⟨gsc hcl,Fr.setapp _ _ _ _⟩
 ·exact Fr.of (.app _ _)
theorem e1W {sg0:Sg} {c f n:Nat} {fs:Fs} {ns:Ns} {od:PV} {w:Int} (hk:Cs sg0 c f n fs ns od w) (hn:ns.length<=B47) {m:Nat} (hm:m<=ns.length) {v:PV} {ow:Ow}
  (hv:(ns=[]/\v=.t (.sl true []))\/∃ oid cs,od=.bf oid ns.length 1/\oid≠n/\sg0[oid]?=some (false,cs)/\ns.length<=cs.length/\(∀ (i:Nat) (p:Nm×Sy),ns[i]?=some p->cs[i]?=some (PV.t (T.str p.1)))/\((m=0/\v=.bf oid ns.length 1)\/v=.ls oid m (ns.length - m) 1)) (Q:Ex->S->Prop):∀ (r:Ns) (i:Nat) (fr:List PV) (sg:Sg),ns.drop (m+i)=r->m+i<=ns.length->sg0.length=sg.length->(∀ j,j≠n->sg[j]?=sg0[j]?)->sg[n]?=some (true,d4V (λx=>.agg (tSy x)) (ns.take m++r)) ->
  b6S fr [(0,.lp c 0),(1,.t (.int .i64 m)),(11,v),(12,.t (.int .i64 ((ns.length - m:Nat):Int))),(13,.t (.int .i64 i))] ->
  (∀ fr' sg',sg0.length=sg'.length->(∀ j,j≠n->sg'[j]?=sg0[j]?)->sg'[n]?=some (true,d4V (λx=>.agg (tSy x)) (ns.take m))->b6S fr' [(0,.lp c 0),(1,.t (.int .i64 m))]->Q (.exit 0) ⟨fr',sg',ow⟩) ->
  Xl F gl c7L ⟨fr,sg,ow⟩ Q ⟨⟩:=by
 intro r
 induction r with
 |nil =>
  intro i fr sg hd hil hlen hg hn' hf k1
  have hd:=b6N hd
  simp only[b6U,b6T] at hf
  obtain⟨f0,f1,f11,f12,f13,-⟩:=hf
  refine Xl.step ?_
  simp only[c7L]
  have c1:¬((i:Int) < ((ns.length - m:Nat):Int)):=by omega
  simp only[wA,seval,f0,f1,f11,f12,f13,c1]
  refine k1 _ _ hlen hg (by simpa using hn') (by simp only[wQ,seval,f0,f1])
 |cons x r ih =>
  intro i fr sg hd hil hlen hg hn' hf k1
  obtain⟨hx,hr,hi⟩:=b6M hd
  simp only[b6U,b6T] at hf
  obtain⟨f0,f1,f11,f12,f13,-⟩:=hf
  rcases hv with⟨rfl,_⟩|⟨oid,cs,h1,h2,h3,h4,h5,hv⟩
  ·simp at hx
  have c1:(i:Int) < ((ns.length - m:Nat):Int):=by omega
  have c2:i < ns.length - m:=by omega
  have hw1:=d5F c2 (show ns.length - m<=281474976710656 by have:B47=140737488355328:=rfl;omega)
  have g3:=(hg oid h2).trans h3
  have gc:=(hg c hk.ck.nc.symm).trans hk.ck.c
  have hcs:=h5 _ _ hx
  have hnl:=d4U hn'
  have hle:m+i+1<=cs.length:=by omega
  have hdr:(cs.drop (m+i)).take 1=[.t (.str x.1)]:=by
   rw[List.take_one,List.head?_drop,hcs];rfl
  have hnd:=hk.od.1
  have hlk:Ky.look x.1 (ns.take m)=none:=d6D hnd hx (by omega)
  have hmd:=d5A (λy=>T.agg (tSy y)) x.1 x.2 (ns.take m) r hlk
  refine Xl.step ?_
  simp only[c7L]
  rcases hv with⟨rfl,rfl⟩|rfl
  ·rw[g7A] at hcs hdr hle
   have c3:i < ns.length:=by omega
   have hmd2:a0V 2 (T.str x.1) (d4V (λy=>T.agg (tSy y)) (x::r))=d4V (λy=>.agg (tSy y)) r:=d5A (λy=>T.agg (tSy y)) x.1 x.2 [] r rfl
   simp only[wA,seval,c3,f0,f1,f11,f12,f13,c1,c2,hw1,g4Z,g3,gc,hle,hdr,hcs,hn',a0Y,d4X,hmd,g6Z]
   rw[hmd2]
   refine ih (i+1) _ _ hr (by omega) (by simp;omega) ?_ (by rw[g5T hnl];rfl) (by simp only[wQ,seval,f0,f1,f11,f12]) k1
   intro j hj
   rw[g5S (λe=>hj e.symm)]
   exact hg j hj
  ·simp only[wA,seval,f0,f1,f11,f12,f13,c1,c2,hw1,g4Z,g3,gc,hle,hdr,hcs,hn',a0Y,d4X,hmd,g6Z]
   refine ih (i+1) _ _ hr (by omega) (by simp;omega) ?_ (g5T hnl) (by simp only[wQ,seval,f0,f1,f11,f12]) k1
   intro j hj
   rw[g5S (λe=>hj e.symm)]
   exact hg j hj
theorem e1X {sg:Sg} {c f n:Nat} {fs:Fs} {ns:Ns} {od:PV} {w:Int} (hk:Cs sg c f n fs ns od w) (hn:ns.length<=B47) {m:Nat} (hm:m<=ns.length) (ow:Ow) :
  CallE F gl 152 [.lp c 0,.t (.int .i64 m)] sg ow λv sg' ow'=>∃ od',Cs sg' c f n fs (ns.take m) od' w/\Fq c n od od' sg sg':=by
 refine XcE.of F152 rfl ?_
 simp only[c7M]
 have hcl:=d4U hk.ck.c
 have hc:=hk.ck.c
 have hnl:=d4U hk.ck.n
 have hod:=hk.od.2
 rcases hod with⟨rfl,rfl⟩|⟨oid,cs,rfl,o1,o2,o3,o4,o5⟩
 ·have hm0:m=0:=by simpa using hm
  subst hm0
  simp only[wA,seval,hc,a0Q,a0P,g4Z]
  refine e1W hk hn (g6U _) (.inl ⟨rfl,rfl⟩) _ [] 0 _ _ rfl (by simp) rfl (λ_ _=>rfl) hk.ck.n (by simp only[wQ,seval];first|done|exact⟨rfl,rfl⟩|rfl) ?_
  intro fr' sg' hlen hg hn' hf
  simp only[b6U,b6T] at hf
  obtain⟨f0,f1,-⟩:=hf
  have gc:=(hg c hk.ck.nc.symm).trans hk.ck.c
  simp only[wA,seval,f0,f1,gc,a0Q,a0P,g4Z,d5H gc]
  exact⟨_,hk.cut0 hlen hg hn'⟩
 ·have hno:oid≠n:=λe=>by rw[e,hk.ck.n] at o2;simp at o2
  have hm2:(m:Int)<=(ns.length:Int):=by omega
  have hm3:(0:Int)<=(m:Int):=by omega
  simp only[wA,seval,hc,a0Q,g4Z,hm,hm2,hm3]
  obtain⟨v,hv1,hv2,hv3⟩:∃ v,(if m=0 then some (PV.bf oid (List.length ns) 1) else some (PV.ls oid (m * 1) (List.length ns - m) 1))=some v/\((m=0/\v=.bf oid ns.length 1)\/v=.ls oid m (ns.length - m) 1)/\lenP false v=some (ns.length - m):=by
   by_cases h0:m=0
   ·subst h0
    exact⟨_,if_pos rfl,.inl ⟨rfl,rfl⟩,rfl⟩
   ·exact⟨_,if_neg h0,.inr (by rw[g6Z]),rfl⟩
  rw[hv1]
  rcases hv2 with⟨rfl,rfl⟩|rfl
  ·(simp only[wA,seval,Nat.sub_zero])
   refine e1W hk hn (g7B _) (.inr ⟨oid,cs,rfl,hno,o2,o4,o5,.inl ⟨rfl,rfl⟩⟩) _ ns 0 _ _ rfl hm rfl (λ_ _=>rfl) hk.ck.n (by simp only[wQ,seval,Nat.sub_zero];first|done|exact⟨rfl,rfl⟩|rfl) ?_
   intro fr' sg' hlen hg hn' hf
   simp only[b6U,b6T] at hf
   obtain⟨f0,f1,-⟩:=hf
   have gc:=(hg c hk.ck.nc.symm).trans hk.ck.c
   simp only[wA,seval,f0,f1,gc,a0Q,g4Z,hm,hm2,hm3]
   have gl:=d4U gc
   refine⟨_,hk.cut hm o1 o2 o3 o4 o5 (by simpa using hlen) (λj hj hjc=>by rw[g5S (λe=>hjc e.symm)];exact hg j hj) (by rw[g5S hk.ck.nc.symm];exact hn') (g5T gl)⟩
  ·have hm4:0<=m:=g7B m
   (simp only[wA,seval,Nat.sub_zero])
   refine e1W hk hn hm (.inr ⟨oid,cs,rfl,hno,o2,o4,o5,.inr rfl⟩) _ (ns.drop m) 0 _ _ rfl hm rfl (λ_ _=>rfl) (by rw[g6P];exact hk.ck.n) (by simp only[wQ,seval];first|done|rfl) ?_
   intro fr' sg' hlen hg hn' hf
   simp only[b6U,b6T] at hf
   obtain⟨f0,f1,-⟩:=hf
   have gc:=(hg c hk.ck.nc.symm).trans hk.ck.c
   simp only[wA,seval,f0,f1,gc,a0Q,g4Z,hm,hm2,hm3,hm4]
   have gl:=d4U gc
   refine⟨_,hk.cut hm o1 o2 o3 o4 o5 (by simpa using hlen) (λj hj hjc=>by rw[g5S (λe=>hjc e.symm)];exact hg j hj) (by rw[g5S hk.ck.nc.symm];exact hn') (g5T gl)⟩
end Go.Proofs.YtdjcnfacjfnakaaGreat
