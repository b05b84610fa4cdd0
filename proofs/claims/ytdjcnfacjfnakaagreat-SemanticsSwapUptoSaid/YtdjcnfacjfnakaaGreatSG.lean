/- The table of functions is the program's; what the bound gives. -/
import Derived.Test.YtdjcnfacjfnakaaGreatU18
import Derived.Test.YtdjcnfacjfnakaaGreatFnB
import Derived.Test.YtdjcnfacjfnakaaGreatPi42
import Derived.Test.YtdjcnfacjfnakaaGreatRows
import Derived.Test.YtdjcnfacjfnakaaGreatPi25
import Derived.Test.YtdjcnfacjfnakaaGreatPi31
import Derived.WalkKit
import Derived.ProofKit
import Derived.OpenShut
import Derived.JoinedCond
set_option linter.unusedSimpArgs false
set_option linter.unusedVariables false
set_option maxRecDepth 100000
namespace Go.Proofs.YtdjcnfacjfnakaaGreat
open Go.Pi Go.Ky Go.ChangeShapes Go.WideShapes Go.ChangeAt Go.RowKit
theorem own:ownKnob Tryz.prog.godebug=none:=by kernel_rfl
theorem fxs:fxB Tryz.prog tb.fx=true:=by kernel_rfl
theorem g2G:Extern.find Tryz.f215=(Extern.MathBitsCarry.rows.head?).map (·.2):=by kernel_rfl
theorem g2H:Extern.findNext Tryz.f215=none:=by kernel_rfl
theorem fxs0:fxB Tryz.prog tb0.fx=true:=by kernel_rfl
theorem g2I:TbOk Tryz.prog tb0 where
 fx k g h:=(d2F fxs0 k g h).2
 bu u h:=by cases h
 xx k g h:=by
  have hm:(k,g)∈[(0,215)]:=h
  simp only[g4U,g5D,or_false,Prod.mk.injEq] at hm
  obtain⟨rfl,rfl⟩:=hm
  exact d2E Tryz.func215 (by kernel_rfl) (by kernel_rfl) g2H g2G
theorem g2J:FnOk Tryz.prog tb0 F where
 tbo:=g2I
 fn k g hkg q hq:=by
  have hk:k=g:=(d2F fxs0 k g hkg).1
  subst hk
  exact g2F _ (b9B hq) (fun e=>by
   have e:k=6:=e
   subst e
   exact absurd hkg (by decide)) (fun e=>by
   have e:k=17:=e
   subst e
   exact absurd hkg (by decide))
theorem g2K:Tryz.f51.body.map (vars Tryz.prog tb0 Tryz.f51.ntmps)=some evs:=by kernel_rfl
theorem g2L:a9G Tryz.prog tb.fx 10 51:=by
 obtain⟨n,hn⟩:=Wp.all (F:=F) (gl:=fun _=>none) evs g1Z
 have hs:Tryz.f51.body.isSome=true:=by kernel_rfl
 obtain⟨c,hc⟩:=Option.isSome_iff_exists.1 hs
 have hv:vars Tryz.prog tb0 Tryz.f51.ntmps c=evs:=by
  have h:=g2K
  rw[hc] at h
  exact Option.some.inj h
 refine g1I (tb:=tb0) g2J n Tryz.func51 hc (by kernel_rfl) (res:=[(4,none),(5,none)]) (by kernel_rfl) (by decide +kernel) (ts0:=exArgs) (by decide +kernel) (fun gl ts r h=>a0P h) (fun x hx=>?_)
 rw[hv] at hx
 obtain⟨ex,s1,h1,h2,h3⟩:=hn x hx
 exact⟨ex,s1,h2,h1,h3⟩
theorem tbOk:TbOk Tryz.prog tb where
 fx k g h:=(d2F fxs k g h).2
 bu u h:=by cases h
 xx k g h:=by
  have hm:(k,g)∈[(0,215),(10,51)]:=h
  simp only[g4U,g5D,or_false,Prod.mk.injEq] at hm
  rcases hm with⟨rfl,rfl⟩|⟨rfl,rfl⟩
  ·exact d2E Tryz.func215 (by kernel_rfl) (by kernel_rfl) g2H g2G
  ·exact g2L
theorem fnOk:FnOk Tryz.prog tb F:=d2G tbOk (fun k g h=>(d2F fxs k g h).1) g2D
theorem g2M:laidOutB Tryz.prog=true:=by kernel_rfl
theorem g2N (W:World):b5O (fun _=>none) W:=by
 intro g ts j x hg hx
 cases hg
theorem g2O {H:Type} (d:DataW H):1≤Rows.uptoBulk d:=by
 cases d with
 |lit l=>cases l <;> simp [Rows.uptoBulk]
 |_=>simp [Rows.uptoBulk]
theorem g2P {H:Type} {d:DataW H} {l:List (DataW H)} (h:d∈l):Rows.uptoBulk d≤Rows.uptoBulkAll l:=by
 induction l with
 |nil=>cases h
 |cons x r ih =>
  simp only[Rows.uptoBulkAll]
  cases g4U.1 h with
  |inl e=>subst e;omega
  |inr e=>have:=ih e;omega
theorem g2Q {H:Type} (l:List (DataW H)):l.length≤Rows.uptoBulkAll l:=by
 induction l with
 |nil=>simp [Rows.uptoBulkAll]
 |cons x r ih=>have:=g2O x;simp only[Rows.uptoBulkAll,g4J];omega
theorem bkOk {H:Type}:BkOk (H:=H) Rows.uptoBulk Rows.uptoBulkAll where
 one:=g2O
 str l:=by simp [Rows.uptoBulk]
 sl a b:=by simp only[Rows.uptoBulk];omega
 agg ds:=by simp only[Rows.uptoBulk];omega
 nil:=by simp [Rows.uptoBulkAll]
 cons d r:=by simp [Rows.uptoBulkAll]
def Bd {H:Type} (_:TypeId) (d:DataW H):Prop:=Rows.uptoBulk d≤1048576
theorem bdOk {H:Type}:BdOk Tryz.prog 1048576 (Bd (H:=H)) where
 str t l h:=by unfold Bd at h;simp [Rows.uptoBulk] at h;omega
 sl t e a b _ _ h:=by
  unfold Bd at h ⊢
  simp only[Rows.uptoBulk] at h
  have h1:=g2Q a
  exact⟨by omega,fun d hd=>by have:=g2P hd;omega⟩
 agg t fs ds _ h i f d _ hd:=by
  unfold Bd at h ⊢
  simp only[Rows.uptoBulk] at h
  have:=g2P (g4Y hd)
  omega
 arr t n e ds _ h d hd:=by
  unfold Bd at h ⊢
  simp only[Rows.uptoBulk] at h
  have:=g2P hd
  omega
theorem g2R:b5C Tryz.prog [44,49] (d3S 44 49):=by
 intro e he
 have h1:b5A Tryz.prog [44,49] 20 44=some (d3O 44):=by kernel_rfl
 have h2:b5A Tryz.prog [44,49] 20 49=some (d3P 44 49):=by kernel_rfl
 rcases g4U.1 he with rfl|he
 ·exact⟨h1,by kernel_rfl,by decide,g6F (by kernel_rfl)⟩
 ·rcases g4U.1 he with rfl|he
  ·exact⟨h2,by kernel_rfl,by decide,g6F (by kernel_rfl)⟩
  ·cases he
end Go.Proofs.YtdjcnfacjfnakaaGreat
