/- The table of functions is the program's; what the bound gives. -/
import Derived.Test.YtdjcnfacjfnakaaGreatE22
import Derived.Test.YtdjcnfacjfnakaaGreatFnA
import Derived.Test.YtdjcnfacjfnakaaGreatRows
import Derived.Test.YtdjcnfacjfnakaaGreatPi25
import Derived.Test.YtdjcnfacjfnakaaGreatPi31
import Derived.WalkKit
import Derived.ProofKit
import Derived.OpenShut
import Derived.JoinedCond
set_option linter.unusedSimpArgs false
set_option linter.unusedVariables false
set_option maxRecDepth 100000
namespace Go.Proofs.YtdjcnfacjfnakaaGreat
open Go.Pi Go.Ky Go.ChangeShapes Go.WideShapes Go.ChangeAt Go.RowKit
theorem own:ownKnob Tryz.prog.godebug=none:=by kernel_rfl
theorem fxs:fxB Tryz.prog tb.fx=true:=by kernel_rfl
theorem g4E:Extern.find Tryz.f215=(Extern.MathBitsCarry.rows.head?).map (·.2):=by kernel_rfl
theorem g4F:Extern.findNext Tryz.f215=none:=by kernel_rfl
theorem tbOk:TbOk Tryz.prog tb where
 fx k g h:=(d0L fxs k g h).2
 xx k g h:=by
  have hm:(k,g)∈[(0,215)]:=h
  simp only[g6H,g6N,or_false,Prod.mk.injEq] at hm
  obtain⟨rfl,rfl⟩:=hm
  exact d0K Tryz.func215 (by kernel_rfl) (by kernel_rfl) g4F g4E
theorem fnOk:FnOk Tryz.prog tb F:=d0M tbOk (λk g h=>(d0L fxs k g h).1) g4D
theorem g4G:laidOutB Tryz.prog=true:=by kernel_rfl
theorem g4H (W:World):b3I (λ_=>none) W:=by
 intro g ts j x hg hx
 cases hg
theorem g4I {H:Type} (d:DataW H):1<=Rows.uptoBulk d:=by
 cases d with
 |lit l=>cases l <;> simp [Rows.uptoBulk]
 |_=>simp [Rows.uptoBulk]
theorem g4J {H:Type} {d:DataW H} {l:List (DataW H)} (h:d∈l):Rows.uptoBulk d<=Rows.uptoBulkAll l:=by
 induction l with
 |nil=>cases h
 |cons x r ih =>
  simp only[Rows.uptoBulkAll]
  cases g6H.1 h with
  |inl e=>subst e;omega
  |inr e=>have:=ih e;omega
theorem g4K {H:Type} (l:List (DataW H)):l.length<=Rows.uptoBulkAll l:=by
 induction l with
 |nil=>simp [Rows.uptoBulkAll]
 |cons x r ih=>have:=g4I x;simp only[Rows.uptoBulkAll,g5X];omega
theorem bkOk {H:Type}:BkOk (H:=H) Rows.uptoBulk Rows.uptoBulkAll where
 one:=g4I
 str l:=by simp [Rows.uptoBulk]
 sl a b:=by simp only[Rows.uptoBulk];omega
 agg ds:=by simp only[Rows.uptoBulk];omega
 nil:=by simp [Rows.uptoBulkAll]
 cons d r:=by simp [Rows.uptoBulkAll]
def Bd {H:Type} (_:TypeId) (d:DataW H):Prop:=Rows.uptoBulk d<=1048576
theorem bdOk {H:Type}:BdOk Tryz.prog 1048576 (Bd (H:=H)) where
 str t l h:=by unfold Bd at h;simp [Rows.uptoBulk] at h;omega
 sl t e a b _ _ h:=by
  unfold Bd at h ⊢
  simp only[Rows.uptoBulk] at h
  have h1:=g4K a
  exact⟨by omega,λd hd=>by have:=g4J hd;omega⟩
 agg t fs ds _ h i f d _ hd:=by
  unfold Bd at h ⊢
  simp only[Rows.uptoBulk] at h
  have:=g4J (g6K hd)
  omega
 arr t n e ds _ h d hd:=by
  unfold Bd at h ⊢
  simp only[Rows.uptoBulk] at h
  have:=g4J hd
  omega
theorem g4L:b2W Tryz.prog [44,49] (d1X 44 49):=by
 intro e he
 have h1:b2U Tryz.prog [44,49] 20 44=some (d1U 44):=by kernel_rfl
 have h2:b2U Tryz.prog [44,49] 20 49=some (d1V 44 49):=by kernel_rfl
 rcases g6H.1 he with rfl|he
 ·exact⟨h1,by kernel_rfl,by decide,g7P (by kernel_rfl)⟩
 ·rcases g6H.1 he with rfl|he
  ·exact⟨h2,by kernel_rfl,by decide,g7P (by kernel_rfl)⟩
  ·cases he
end Go.Proofs.YtdjcnfacjfnakaaGreat
