/- The table of functions is the program's; what the bound gives. -/
import Derived.Test.YtdjcnfacjfnakaaGreatE24
import Derived.Test.YtdjcnfacjfnakaaGreatFnA
import Derived.Test.YtdjcnfacjfnakaaGreatRows
import Derived.Test.YtdjcnfacjfnakaaGreatPi25
import Derived.Test.YtdjcnfacjfnakaaGreatPi31
import Derived.WalkKit
import Derived.ProofKit
import Derived.OpenShut
import Derived.JoinedCond
set_option linter.unusedSimpArgs false
set_option linter.unusedVariables false
set_option maxRecDepth 100000
namespace Go.Proofs.YtdjcnfacjfnakaaGreat
open Go.Pi Go.Ky Go.ChangeShapes Go.WideShapes Go.ChangeAt Go.RowKit
theorem own:ownKnob Tryz.prog.godebug=none:=by kernel_rfl
theorem fxs:fxB Tryz.prog tb.fx=true:=by kernel_rfl
theorem g1Z:Extern.find Tryz.f215=(Extern.MathBitsCarry.rows.head?).map (·.2):=by kernel_rfl
theorem g2A:Extern.findNext Tryz.f215=none:=by kernel_rfl
theorem tbOk:TbOk Tryz.prog tb where
 fx k g h:=(d1I fxs k g h).2
 bu u h:=by cases h
 xx k g h:=by
  have hm:(k,g)∈[(0,215)]:=h
  simp only[g4G,g4N,or_false,Prod.mk.injEq] at hm
  obtain⟨rfl,rfl⟩:=hm
  exact d1H Tryz.func215 (by kernel_rfl) (by kernel_rfl) g2A g1Z
theorem fnOk:FnOk Tryz.prog tb F:=d1J tbOk (fun k g h=>(d1I fxs k g h).1) g1Y
theorem g2B:laidOutB Tryz.prog=true:=by kernel_rfl
theorem g2C (W:World):b5T (fun _=>none) W:=by
 intro g ts j x hg hx
 cases hg
theorem g2D {H:Type} (d:DataW H):1≤Rows.uptoBulk d:=by
 cases d with
 |lit l=>cases l <;> simp [Rows.uptoBulk]
 |_=>simp [Rows.uptoBulk]
theorem g2E {H:Type} {d:DataW H} {l:List (DataW H)} (h:d∈l):Rows.uptoBulk d≤Rows.uptoBulkAll l:=by
 induction l with
 |nil=>cases h
 |cons x r ih =>
  simp only[Rows.uptoBulkAll]
  cases g4G.1 h with
  |inl e=>subst e;omega
  |inr e=>have:=ih e;omega
theorem g2F {H:Type} (l:List (DataW H)):l.length≤Rows.uptoBulkAll l:=by
 induction l with
 |nil=>simp [Rows.uptoBulkAll]
 |cons x r ih=>have:=g2D x;simp only[Rows.uptoBulkAll,g3W];omega
theorem bkOk {H:Type}:BkOk (H:=H) Rows.uptoBulk Rows.uptoBulkAll where
 one:=g2D
 str l:=by simp [Rows.uptoBulk]
 sl a b:=by simp only[Rows.uptoBulk];omega
 agg ds:=by simp only[Rows.uptoBulk];omega
 nil:=by simp [Rows.uptoBulkAll]
 cons d r:=by simp [Rows.uptoBulkAll]
def Bd {H:Type} (N:Nat) (_:TypeId) (d:DataW H):Prop:=Rows.uptoBulk d≤N
theorem bdOk {H:Type} (N:Nat):BdOk Tryz.prog N (Bd (H:=H) N) where
 str t l h:=by unfold Bd at h;simp [Rows.uptoBulk] at h;omega
 sl t e a b _ _ h:=by
  unfold Bd at h ⊢
  simp only[Rows.uptoBulk] at h
  have h1:=g2F a
  exact⟨by omega,fun d hd=>by have:=g2E hd;omega⟩
 agg t fs ds _ h i f d _ hd:=by
  unfold Bd at h ⊢
  simp only[Rows.uptoBulk] at h
  have:=g2E (g4K hd)
  omega
 arr t n e ds _ h d hd:=by
  unfold Bd at h ⊢
  simp only[Rows.uptoBulk] at h
  have:=g2E hd
  omega
theorem g2G:b5H Tryz.prog [44,49] (d2I 44 49):=by
 intro e he
 have h1:b5F Tryz.prog [44,49] 20 44=some (ctEx 44):=by kernel_rfl
 have h2:b5F Tryz.prog [44,49] 20 49=some (ctSt 44 49):=by kernel_rfl
 rcases g4G.1 he with rfl|he
 ·exact⟨h1,by kernel_rfl,by decide,g5N (by kernel_rfl)⟩
 ·rcases g4G.1 he with rfl|he
  ·exact⟨h2,by kernel_rfl,by decide,g5N (by kernel_rfl)⟩
  ·cases he
end Go.Proofs.YtdjcnfacjfnakaaGreat
