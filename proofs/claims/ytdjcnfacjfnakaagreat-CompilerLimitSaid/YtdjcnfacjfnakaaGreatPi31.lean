/- PI 30: functions without a body, the tables that a row lists, the table of functions. Program independent. -/
import Derived.Test.YtdjcnfacjfnakaaGreatPi29
import Derived.Laws.Externs
set_option linter.unusedSimpArgs false
set_option linter.unusedVariables false
namespace Go.Pi
variable {P:Program}
theorem d1H {fx : List (Nat × Nat)} {g : Nat} {fn : Func} (hf : P.funcs[g]? = some fn) (hname : (fn.name == "runtime.NumGoroutine") = false) (hb : fn.body.isNone = true) (hn : Extern.findNext fn = none)
  (he:Extern.find fn=(Extern.MathBitsCarry.rows.head?).map (·.2)):XxOk P fx 0 g:=by
 intro ts r vs G w gl _ hx hl hr
 left
 unfold a0P at hx
 split at hx
 ·rename_i x y c _
  split at hx
  ·rename_i hc
   obtain⟨h1,h2,h3,h4⟩:=hc
   injection hx with hx
   subst hx
   obtain⟨l⟩:=vs
   match l,hl with
   |[a,b,d],_ =>
    have ha:=hr 0 a _ rfl rfl
    have hbb:=hr 1 b _ rfl rfl
    have hd:=hr 2 d _ rfl rfl
    cases ha
    cases hbb
    cases hd
    refine⟨.tuple #[.int .u64 ((x+y+c) % 18446744073709551616),.int .u64 ((x+y+c) / 18446744073709551616)],?_,?_⟩
    rotate_left
    ·exact .tup #[.int .u64 ((x+y+c) % 18446744073709551616),.int .u64 ((x+y+c) / 18446744073709551616)] _ rfl fun i v q hv hq=>by
      match i with
      |0=>simp at hv hq;subst hv hq;exact .t (.int _ _)
      |1=>simp at hv hq;subst hv hq;exact .t (.int _ _)
      |i+2=>simp at hv
    ·have he':Extern.find fn=some add64Entry:=he
     rw[run_callFunc_extern hf hname hb hn he',run_add64 x y c h1 h2 h3 h4]
     rfl
  ·cases hx
 all_goals first|contradiction|cases hx
def fxB (P:Program) (l:List (Nat×Nat)):Bool:=l.all fun p=>match P.funcs[p.2]? with
 | some fn => fn.body.isSome && !(fn.name == "runtime.NumGoroutine") && p.1 == p.2
 |none=>false
theorem d1I {l : List (Nat × Nat)} (h : fxB P l = true) (k g : Nat) (hm : (k, g) ∈ l) : k = g ∧ ∃ fn c, P.funcs[g]? = some fn ∧ fn.body = some c ∧ (fn.name == "runtime.NumGoroutine") = false := by
 have:=g2Y.1 h _ hm
 simp only at this
 split at this
 ·rename_i fn hf
  simp only[g2R,Bool.not_eq_true',beq_iff_eq] at this
  obtain⟨⟨h1,h2⟩,h3⟩:=this
  obtain⟨c,hc⟩:=Option.isSome_iff_exists.1 h1
  exact⟨h3,fn,c,hf,hc,h2⟩
 ·cases this
theorem d1J {tb:Tb} {irs:List (Nat×Fn)} (ht:TbOk P tb) (hid:∀ k g,(k,g)∈tb.fx→k=g) (hc:∀ p,p∈irs→∃ fn,P.funcs[p.1]?=some fn∧a4D P tb fn=some p.2):FnOk P tb (b9G irs) where
 tbo:=ht
 fn k g hkg q hq:=by
  have:=hid k g hkg
  subst this
  exact hc _ (b9H hq)
theorem CallP.law {F:Nat→Option Fn} {gl:Nat→Option (List T)} {f:Nat} {ts:List T} {b:Bool} (h:Ret F gl f ts (.t (.bool b))):∃ n sg ow,a1S F gl n f (ts.map .t) [] []=some (.t (.bool b),sg,ow):=by
 obtain⟨n,v,sg,ow,h1,h2⟩:=h
 refine⟨n,sg,ow,?_⟩
 rw[h1]
 unfold onO at h2
 split at h2
 ·rename_i x hx
  subst h2
  have hv:v=.t (.bool b):=by
   unfold retV at hx
   split at hx
   ·split at hx <;> cases hx
   ·cases hx
   ·rename_i vs
    cases hm:vs.mapM (retSl sg) with
    |none=>rw[hm] at hx;cases hx
    |some ts=>rw[hm] at hx;cases hx
   ·cases v with
    |t y =>
     simp only[retSl,close,close1,g5F,g5G] at hx
     exact hx
    |ls id off len sz =>
     simp only[retSl] at hx
     cases hm:a0L sg sz (.ls id off len sz) with
     |none=>rw[hm] at hx;cases hx
     |some es=>rw[hm] at hx;cases hx
    |agg cs =>
     simp only[retSl] at hx
     cases hm:cs.mapM (ret1 sg) with
     |none=>rw[hm] at hx;cases hx
     |some es=>rw[hm] at hx;cases hx
    |_=>simp [retSl,close,close1] at hx
  rw[hv]
 ·cases h2
end Go.Pi

/- PI 31: from a tree's kinds to plain data. Program independent. -/
namespace Go.Pi
theorem d1K {env:Nat→List CT} {N:Nat} {k:IntKind} {x:T} (h:Wt env N (.int k) x):∃ n,x=.int k n∧k.min≤n∧n≤k.max:=by
 cases h with
 |int _ n h1 h2=>exact⟨n,rfl,h1,h2⟩
theorem d1L {env:Nat→List CT} {N:Nat} {x:T} (h:Wt env N (.int .u8) x):∃ n,x=.int .u8 n∧0≤n∧n≤255:=d1K h
theorem d1M {env:Nat→List CT} {N:Nat} {x:T} (h:Wt env N (.int .u16) x):∃ n,x=.int .u16 n∧0≤n∧n≤65535:=d1K h
theorem d1N {env:Nat→List CT} {N:Nat} {c:CT} {x:T} (h:b5O env N (false,[c]) x):Wt env N c x:=by
 obtain⟨c',h1,h2⟩:=h
 injection h1 with h1
 subst h1
 exact h2
theorem d1O {env:Nat→List CT} {N:Nat} {a:Bool×List CT} {as:List (Bool×List CT)} {xs:List T} (h:b5P env N (a::as) xs):∃ x r,xs=x::r∧b5O env N a x∧b5P env N as r:=by
 cases xs with
 |nil=>cases h
 |cons x r=>exact⟨x,r,rfl,h.1,h.2⟩
theorem d1P {env:Nat→List CT} {N:Nat} {xs:List T} (h:b5P env N [] xs):xs=[]:=by
 cases xs with
 |nil=>rfl
 |cons x r=>cases h
end Go.Pi
