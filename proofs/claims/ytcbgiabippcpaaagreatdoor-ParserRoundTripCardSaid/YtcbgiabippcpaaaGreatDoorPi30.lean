/- PI 30: functions without a body, the tables that a row lists, the table of functions. Program independent. -/
import Derived.Test.YtcbgiabippcpaaaGreatDoorPi29
import Derived.Laws.Externs
set_option linter.unusedSimpArgs false
set_option linter.unusedVariables false
namespace Go.Pi
variable {P:Program}
theorem c9S {fx : List (Nat × Nat)} {g : Nat} {fn : Func} (hf : P.funcs[g]? = some fn) (hname : (fn.name == "runtime.NumGoroutine") = false) (hb : fn.body.isNone = true) (hn : Extern.findNext fn = none)
  (he:Extern.find fn=some Extern.BytealgIndexByte.indexByte):a8Y P fx 1 g:=by
 intro ts r vs G w gl _ hx hl hr
 left
 match ts,hx with
 |[.str s,.int .u8 c],hx =>
  simp only[a0Q,g9G] at hx
  subst hx
  obtain⟨l⟩:=vs
  match l,hl with
  |[a,b],_ =>
   have ha:=hr 0 a _ rfl rfl
   have hbb:=hr 1 b _ rfl rfl
   cases ha
   cases hbb
   refine⟨_,?_,.t (.int _ _)⟩
   rw[run_callFunc_extern hf hname hb hn he,Lib.run_indexByteString]
   rfl
theorem c9T {fx:List (Nat×Nat)} {g m:Nat} (he:∀ args w,(callFunc g args).run P w=.ok (.enter g args) w)
  (hc:∀ (s sub:ByteArray) (n:Int) (w:World),s.size < 4294967281→w.cell? ⟨m,0,none⟩=some (.int .i64 n)→Calls P g #[.string s,.string sub] w fun e w'=>e=.returned (.bool (Lib.contains s.data.toList sub.data.toList))∧w'=w):a8Y P fx (m * 16+4) g:=by
 intro ts r vs G w gl hg hx hl hr
 right
 have k1:(m * 16+1) % 16=1:=by omega
 have k2:(m * 16+1) / 16=m:=by omega
 have k3:m * 16+4=(m * 16+1)+3:=rfl
 rw[k3] at hx
 simp only[a0Q,k1,k2] at hx
 unfold a0P at hx
 split at hx
 ·contradiction
 ·split at hx
  ·rename_i n hgl
   split at hx
   ·rename_i a b _ hlen
    injection hx with hx
    subst hx
    obtain⟨v,hv,hvr,_⟩:=hg m _ 0 _ hgl rfl
    cases hvr
    obtain⟨l⟩:=vs
    match l,hl with
    |[x,y],_ =>
     have ha:=hr 0 x _ rfl rfl
     have hb:=hr 1 y _ rfl rfl
     cases ha
     cases hb
     refine⟨he _ _,(hc _ _ n w (by rw[Lib.size_eq];exact hlen) hv).mono ?_⟩
     rintro e w' ⟨rfl,rfl⟩
     exact⟨_,G.st,rfl,RowKit.Below.refl _ _,fun _ _ h=>h,fun _ _ h=>.inl h,.t (.bool _)⟩
   ·cases hx
  ·cases hx
 all_goals first|contradiction|cases hx
theorem c9U {fx:List (Nat×Nat)} {g gs gr tN:Nat} (hgs:gs < 256) (he:∀ args w,(callFunc g args).run P w=.ok (.enter g args) w)
  (h1:∀ (s:ByteArray),s.size≤9223372036854775806→∀ (u:Nat),Lib.parseUintB 64 s.data.toList=.ok u→∀ (w:World),Calls P g #[.string s,.int .i64 10,.int .i64 64] w fun e w'=>e=.returned (.tuple #[.int .u64 u,.nilIface])∧RowKit.Below w.heap.size w w')
  (h2:∀ (s:ByteArray),s.size≤281474976710656→(∀ u,Lib.parseUintB 64 s.data.toList≠.ok u)→Lib.parseUintB 64 s.data.toList≠.range→∀ (ev:Value) (w:World),w.cell? ⟨gs,0,none⟩=some ev→(ev=.nilIface∨∃ te pe,ev=.iface te pe) →
   Calls P g #[.string s,.int .i64 10,.int .i64 64] w fun e w'=>∃ N,e=.returned (.tuple #[.int .u64 0,.iface tN N])∧RowKit.Below w.heap.size w w')
  (h3:∀ (s:ByteArray),s.size≤281474976710656→Lib.parseUintB 64 s.data.toList=.range→∀ (ev:Value) (w:World),w.cell? ⟨gr,0,none⟩=some ev→(ev=.nilIface∨∃ te pe,ev=.iface te pe) →
   Calls P g #[.string s,.int .i64 10,.int .i64 64] w fun e w'=>∃ N,e=.returned (.tuple #[.int .u64 18446744073709551615,.iface tN N])∧RowKit.Below w.heap.size w w'):a8Y P fx ((gr * 256+gs) * 16+5) g:=by
 intro ts r vs G w gl hg hx hl hr
 right
 have k1:((gr * 256+gs) * 16+2) % 16=2:=by omega
 have k2:((gr * 256+gs) * 16+2) / 16=gr * 256+gs:=by omega
 have k3:(gr * 256+gs) * 16+5=((gr * 256+gs) * 16+2)+3:=rfl
 have k4:(gr * 256+gs) % 256=gs:=by omega
 have k5:(gr * 256+gs) / 256=gr:=by omega
 rw[k3] at hx
 simp only[a0Q,k1,k2] at hx
 unfold a0P at hx
 split at hx
 ·contradiction
 ·contradiction
 ·simp only[k4,k5] at hx
  split at hx
  ·rename_i a x y _ _ _ g1 g2
   split at hx
   ·rename_i hc
    obtain⟨rfl,rfl,hlen⟩:=hc
    obtain⟨v,hv,hvr,_⟩:=hg gs _ 0 _ g1 rfl
    obtain⟨v2,hv2,hvr2,_⟩:=hg gr _ 0 _ g2 rfl
    cases hvr
    cases hvr2
    obtain⟨l⟩:=vs
    match l,hl with
    |[x,y,z],_ =>
     have ha:=hr 0 x _ rfl rfl
     have hb:=hr 1 y _ rfl rfl
     have hd:=hr 2 z _ rfl rfl
     cases ha
     cases hb
     cases hd
     rw[←Lib.size_eq] at hlen
     refine⟨he _ _,?_⟩
     have two (n:Int) (v':Value) (q:T) (st:Nat→Nat→Prop) (w':World) (h:TRep st w' v' q):PRep fx { G with st:=st } w' (.tuple #[.int .u64 n,v']) (.tup [.t (.int .u64 n),.t q]) :=
      .tup #[.int .u64 n,v'] _ rfl fun i v x hv hq=>by
       match i with
       |0=>simp at hv hq;subst hv hq;exact .t (.int _ _)
       |1=>simp at hv hq;subst hv hq;exact .t h
       |i+2=>simp at hv
     split at hx
     ·rename_i u hu
      injection hx with hx
      subst hx
      refine(h1 _ (by omega) u hu w).mono ?_
      rintro e w' ⟨rfl,hbel⟩
      exact⟨_,G.st,rfl,hbel,fun _ _ h=>h,fun _ _ h=>.inl h,two _ _ _ _ _ .nif⟩
     ·rename_i hu
      injection hx with hx
      subst hx
      refine(h3 _ hlen hu _ w hv2 (.inr ⟨_,_,rfl⟩)).mono ?_
      rintro e w' ⟨N,rfl,hbel⟩
      exact⟨_,G.st,rfl,hbel,fun _ _ h=>h,fun _ _ h=>.inl h,two _ _ _ _ _ (.ifx _ _)⟩
     ·rename_i hu1 hu2
      injection hx with hx
      subst hx
      refine(h2 _ hlen (fun u hu=>hu1 u hu) (fun hu=>hu2 hu) _ w hv (.inr ⟨_,_,rfl⟩)).mono ?_
      rintro e w' ⟨N,rfl,hbel⟩
      exact⟨_,G.st,rfl,hbel,fun _ _ h=>h,fun _ _ h=>.inl h,two _ _ _ _ _ (.ifx _ _)⟩
   ·cases hx
  ·cases hx
 all_goals first|contradiction|cases hx
def c9V:List (Nat×IntKind×List Int)→Nat→Option (List T)
 |[],_=>none
 |(g,k,zs)::r,n=>if g=n then some (zs.map (.int k)) else c9V r n
theorem c9W {W:World}:∀ {l:List (Nat×IntKind×List Int)},(∀ g k zs,(g,k,zs)∈l→∀ i,i < zs.length→W.cell? ⟨g,i,none⟩=some (.int k (zs.getD i 0)))→b5D (c9V l) W:=by
 intro l
 induction l with
 |nil=>intro _ g ts j x h;cases h
 |cons p r ih =>
  intro h g ts j x hg hx
  obtain⟨g0,k,zs⟩:=p
  simp only[c9V] at hg
  split at hg
  ·rename_i e
   subst e
   injection hg with hg
   subst hg
   have hj:j < zs.length:=by have:=(g7B.1 hx).1;simpa using this
   have hc:=h g0 k zs g7Y j hj
   rw[g7C,g6Z hj] at hx
   simp only[g9F,g9G] at hx
   subst hx
   refine⟨_,hc,?_,b4T hc⟩
   rw[List.getD_eq_getElem?_getD,g6Z hj]
   exact .int _ _
  ·exact ih (fun g k zs hm=>h g k zs (g7X _ hm)) g ts j x hg hx
def fxB (P:Program) (l:List (Nat×Nat)):Bool:=l.all fun p=>match P.funcs[p.2]? with
 | some fn => fn.body.isSome && !(fn.name == "runtime.NumGoroutine") && p.1 == p.2
 |none=>false
theorem c9X {l : List (Nat × Nat)} (h : fxB P l = true) (k g : Nat) (hm : (k, g) ∈ l) : k = g ∧ ∃ fn c, P.funcs[g]? = some fn ∧ fn.body = some c ∧ (fn.name == "runtime.NumGoroutine") = false := by
 have:=g6F.1 h _ hm
 simp only at this
 split at this
 ·rename_i fn hf
  simp only[g5U,g5W,beq_iff_eq] at this
  obtain⟨⟨h1,h2⟩,h3⟩:=this
  obtain⟨c,hc⟩:=Option.isSome_iff_exists.1 h1
  exact⟨h3,fn,c,hf,hc,h2⟩
 ·cases this
theorem c9Y {tb:Tb} {irs:List (Nat×Fn)} (ht:TbOk P tb) (hid:∀ k g,(k,g)∈tb.fx→k=g) (hc:∀ p,p∈irs→∃ fn,P.funcs[p.1]?=some fn∧a3Z P tb fn=some p.2):FnOk P tb (b8P irs) where
 tbo:=ht
 fn k g hkg q hq:=by
  have:=hid k g hkg
  subst this
  exact hc _ (b8Q hq)
theorem CallP.law {F:Nat→Option Fn} {gl:Nat→Option (List T)} {f:Nat} {ts:List T} {b:Bool} (h:Ret F gl f ts (.t (.bool b))):∃ n sg ow,a1Q F gl n f (ts.map .t) [] []=some (.t (.bool b),sg,ow):=by
 obtain⟨n,v,sg,ow,h1,h2⟩:=h
 refine⟨n,sg,ow,?_⟩
 rw[h1]
 unfold onO at h2
 split at h2
 ·rename_i x hx
  subst h2
  have hv:v=.t (.bool b):=by
   unfold retV at hx
   split at hx
   ·split at hx <;> cases hx
   ·cases hx
   ·rename_i vs
    cases hm:vs.mapM (retSl sg) with
    |none=>rw[hm] at hx;cases hx
    |some ts=>rw[hm] at hx;cases hx
   ·cases v with
    |t y =>
     simp only[retSl,close,close1,g9F,g9G] at hx
     exact hx
    |ls id off len sz =>
     simp only[retSl] at hx
     cases hm:a0L sg sz (.ls id off len sz) with
     |none=>rw[hm] at hx;cases hx
     |some es=>rw[hm] at hx;cases hx
    |agg cs =>
     simp only[retSl,close] at hx
     cases hm:cs.mapM close1 with
     |none=>rw[hm] at hx;cases hx
     |some es=>rw[hm] at hx;cases hx
    |_=>simp [retSl,close,close1] at hx
  rw[hv]
 ·cases h2
end Go.Pi
