/- PI 30: functions without a body, the tables that a row lists, the table of functions. -/
import Derived.Test.YtdjcnfacjfnakaaGreatPi29
import Derived.Laws.Externs
set_option linter.unusedSimpArgs false
set_option linter.unusedVariables false
namespace Go.Pi
variable {P:Program}
theorem d0K {fx : List (Nat × Nat)} {g : Nat} {fn : Func} (hf : P.funcs[g]? = some fn) (hname : (fn.name == "runtime.NumGoroutine") = false) (hb : fn.body.isNone = true) (hn : Extern.findNext fn = none)
  (he:Extern.find fn=(Extern.MathBitsCarry.rows.head?).map (·.2)):XxOk P fx 0 g:=by
 intro ts r vs G w gl _ hx hl hr
 left
 unfold a0O at hx
 split at hx
 ·rename_i x y c _
  split at hx
  ·rename_i hc
   obtain⟨h1,h2,h3,h4⟩:=hc
   injection hx with hx
   subst hx
   obtain⟨l⟩:=vs
   match l,hl with
   |[a,b,d],_ =>
    have ha:=hr 0 a _ rfl rfl
    have hbb:=hr 1 b _ rfl rfl
    have hd:=hr 2 d _ rfl rfl
    cases ha
    cases hbb
    cases hd
    refine⟨.tuple #[.int .u64 ((x+y+c) % 18446744073709551616),.int .u64 ((x+y+c) / 18446744073709551616)],?_,?_⟩
    rotate_left
    ·exact .tup #[.int .u64 ((x+y+c) % 18446744073709551616),.int .u64 ((x+y+c) / 18446744073709551616)] _ rfl λi v q hv hq=>by
      match i with
      |0=>simp at hv hq;subst hv hq;exact .t (.int _ _)
      |1=>simp at hv hq;subst hv hq;exact .t (.int _ _)
      |i+2=>simp at hv
    ·have he':Extern.find fn=some add64Entry:=he
     rw[run_callFunc_extern hf hname hb hn he',run_add64 x y c h1 h2 h3 h4]
     rfl
  ·cases hx
 all_goals first|contradiction|cases hx
def fxB (P:Program) (l:List (Nat×Nat)):Bool:=l.all λp=>match P.funcs[p.2]? with
 | some fn => fn.body.isSome && !(fn.name == "runtime.NumGoroutine") && p.1 == p.2
 |none=>false
theorem d0L {l : List (Nat × Nat)} (h : fxB P l = true) (k g : Nat) (hm : (k, g) ∈ l) : k = g /\ ∃ fn c, P.funcs[g]? = some fn /\ fn.body = some c /\ (fn.name == "runtime.NumGoroutine") = false := by
 have:=g5A.1 h _ hm
 simp only at this
 split at this
 ·rename_i fn hf
  simp only[g4S,Bool.not_eq_true',beq_iff_eq] at this
  obtain⟨⟨h1,h2⟩,h3⟩:=this
  obtain⟨c,hc⟩:=Option.isSome_iff_exists.1 h1
  exact⟨h3,fn,c,hf,hc,h2⟩
 ·cases this
theorem d0M {tb:Tb} {irs:List (Nat×Fn)} (ht:TbOk P tb) (hid:∀ k g,(k,g)∈tb.fx->k=g) (hc:∀ p,p∈irs->∃ fn,P.funcs[p.1]?=some fn/\a3P P tb fn=some p.2):FnOk P tb (b6J irs) where
 tbo:=ht
 fn k g hkg q hq:=by
  have:=hid k g hkg
  subst this
  exact hc _ (b6K hq)
theorem CallP.law {F:Nat->Option Fn} {gl:Nat->Option (List T)} {f:Nat} {ts:List T} {b:Bool} (h:Ret F gl f ts (.t (.bool b))):∃ n sg ow,a1M F gl n f (ts.map .t) [] []=some (.t (.bool b),sg,ow):=by
 obtain⟨n,v,sg,ow,h1,h2⟩:=h
 refine⟨n,sg,ow,?_⟩
 rw[h1]
 unfold onO at h2
 split at h2
 ·rename_i x hx
  subst h2
  have hv:v=.t (.bool b):=by
   unfold retV at hx
   split at hx
   ·split at hx <;> cases hx
   ·cases hx
   ·rename_i vs
    cases hm:vs.mapM (retSl sg) with
    |none=>rw[hm] at hx;cases hx
    |some ts=>rw[hm] at hx;cases hx
   ·cases v with
    |t y =>
     simp only[retSl,close,close1,g7F,g7G] at hx
     exact hx
    |ls id off len sz =>
     simp only[retSl] at hx
     cases hm:a0K sg sz (.ls id off len sz) with
     |none=>rw[hm] at hx;cases hx
     |some es=>rw[hm] at hx;cases hx
    |agg cs =>
     simp only[retSl] at hx
     cases hm:cs.mapM (ret1 sg) with
     |none=>rw[hm] at hx;cases hx
     |some es=>rw[hm] at hx;cases hx
    |_=>simp [retSl,close,close1] at hx
  rw[hv]
 ·cases h2
end Go.Pi

/- PI 31: from a tree's kinds to plain data. -/
namespace Go.Pi
def Wts (env:Nat->List CT) (N:Nat) (ct:List CT) (e:List T):Prop:=e.length=ct.length/\∀ (j:Nat) (y:CT) (x:T),ct[j]?=some y->e[j]?=some x->Wt env N y x
theorem d0N {env:Nat->List CT} {N:Nat} {ct:List CT} {x:T} (h:Wt env N (.sl ct) x):∃ (nl:Bool) (es:List (List T)),x=.sl nl es/\es.length<=N/\(nl=true->es=[])/\∀ e,e∈es->Wts env N ct e:=by
 cases h with
 |nsl=>exact⟨true,[],rfl,g7B _,λ_=>rfl,by simp⟩
 |sl _ es hl hc h=>exact⟨false,es,rfl,hl,by simp,λe he=>⟨hc e he,h e he⟩⟩
theorem d0O {env:Nat->List CT} {N:Nat} {e:List T} (h:Wts env N [] e):e=[]:=by
 obtain⟨h,_⟩:=h
 simpa using h
theorem d0P {env:Nat->List CT} {N:Nat} {c:CT} {cs:List CT} {e:List T} (h:Wts env N (c::cs) e):∃ x r,e=x::r/\Wt env N c x/\Wts env N cs r:=by
 obtain⟨h1,h2⟩:=h
 cases e with
 |nil=>simp at h1
 |cons x r=>exact⟨x,r,rfl,h2 0 c x rfl rfl,by simpa using h1,λj y z hy hz=>h2 (j+1) y z (by simpa using hy) (by simpa using hz)⟩
theorem d0Q {env:Nat->List CT} {N:Nat} {k:IntKind} {x:T} (h:Wt env N (.int k) x):∃ n,x=.int k n/\k.min<=n/\n<=k.max:=by
 cases h with
 |int _ n h1 h2=>exact⟨n,rfl,h1,h2⟩
theorem d0R {env:Nat->List CT} {N:Nat} {x:T} (h:Wt env N (.int .i64) x):∃ n,x=.int .i64 n/\-9223372036854775808<=n/\n<=9223372036854775807:=d0Q h
theorem d0S {env:Nat->List CT} {N:Nat} {x:T} (h:Wt env N (.int .u64) x):∃ n,x=.int .u64 n/\0<=n/\n<=18446744073709551615:=d0Q h
theorem d0T {env:Nat->List CT} {N:Nat} {x:T} (h:Wt env N .str x):∃ s,x=.str s/\s.length<=N:=by
 cases h with
 |str s h=>exact⟨s,rfl,h⟩
theorem d0U {env:Nat->List CT} {N:Nat} {x:T} (h:Wt env N .bool x):∃ b,x=.bool b:=by
 cases h with
 |bool b=>exact⟨b,rfl⟩
theorem d0V {α:Type} {p:α->Prop} {enc:α->List T}:∀ {es:List (List T)},(∀ e,e∈es->∃ a,e=enc a/\p a)->∃ l:List α,es=l.map enc/\∀ a,a∈l->p a:=by
 intro es
 induction es with
 |nil=>intro _;exact⟨[],rfl,by simp⟩
 |cons e r ih =>
  intro h
  obtain⟨a,ha,hp⟩:=h e List.mem_cons_self
  obtain⟨l,hl,hq⟩:=ih λe he=>h e (g6I _ he)
  refine⟨a::l,by rw[ha,hl];rfl,λb hb=>?_⟩
  rcases g6H.1 hb with e|e
  ·subst e;exact hp
  ·exact hq b e
theorem d0W {env:Nat->List CT} {N:Nat} {ct:List CT} {x:T} (h:b3D env N (true,ct) x):∃ xs,x=.agg xs/\Wts env N ct xs:=by
 obtain⟨xs,h1,h2,h3⟩:=h
 exact⟨xs,h1,h2,h3⟩
theorem d0X {env:Nat->List CT} {N:Nat} {c:CT} {x:T} (h:b3D env N (false,[c]) x):Wt env N c x:=by
 obtain⟨c',h1,h2⟩:=h
 injection h1 with h1
 subst h1
 exact h2
theorem d0Y {env:Nat->List CT} {N:Nat} {a:Bool×List CT} {as:List (Bool×List CT)} {xs:List T} (h:b3E env N (a::as) xs):∃ x r,xs=x::r/\b3D env N a x/\b3E env N as r:=by
 cases xs with
 |nil=>cases h
 |cons x r=>exact⟨x,r,rfl,h.1,h.2⟩
theorem d0Z {env:Nat->List CT} {N:Nat} {xs:List T} (h:b3E env N [] xs):xs=[]:=by
 cases xs with
 |nil=>rfl
 |cons x r=>cases h
end Go.Pi
