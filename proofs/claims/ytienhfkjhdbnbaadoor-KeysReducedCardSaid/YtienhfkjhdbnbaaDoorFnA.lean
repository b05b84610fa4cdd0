/- The forms are those of the program's functions. -/
import Derived.Test.YtienhfkjhdbnbaaDoorIrA
import Derived.Test.YtienhfkjhdbnbaaDoorProg
import Derived.KernelRfl
set_option maxRecDepth 10000
namespace Go.Proofs.YtienhfkjhdbnbaaDoor
open Go.Pi
theorem comp3 : compF Tryd.prog tb Tryd.f3 = some ir3 := by kernel_rfl
theorem comp4 : compF Tryd.prog tb Tryd.f4 = some ir4 := by kernel_rfl
theorem comp5 : compF Tryd.prog tb Tryd.f5 = some ir5 := by kernel_rfl
theorem comp6 : compF Tryd.prog tb Tryd.f6 = some ir6 := by kernel_rfl
theorem comp7 : compF Tryd.prog tb Tryd.f7 = some ir7 := by kernel_rfl
theorem comp8 : compF Tryd.prog tb Tryd.f8 = some ir8 := by kernel_rfl
theorem comp9 : compF Tryd.prog tb Tryd.f9 = some ir9 := by kernel_rfl
theorem comp10 : compF Tryd.prog tb Tryd.f10 = some ir10 := by kernel_rfl
theorem comp11 : compF Tryd.prog tb Tryd.f11 = some ir11 := by kernel_rfl
theorem comp12 : compF Tryd.prog tb Tryd.f12 = some ir12 := by kernel_rfl
theorem comp13 : compF Tryd.prog tb Tryd.f13 = some ir13 := by kernel_rfl
theorem comp14 : compF Tryd.prog tb Tryd.f14 = some ir14 := by kernel_rfl
theorem comp15 : compF Tryd.prog tb Tryd.f15 = some ir15 := by kernel_rfl
theorem comp16 : compF Tryd.prog tb Tryd.f16 = some ir16 := by kernel_rfl
theorem comp17 : compF Tryd.prog tb Tryd.f17 = some ir17 := by kernel_rfl
theorem comp18 : compF Tryd.prog tb Tryd.f18 = some ir18 := by kernel_rfl
theorem comp19 : compF Tryd.prog tb Tryd.f19 = some ir19 := by kernel_rfl
theorem comp20 : compF Tryd.prog tb Tryd.f20 = some ir20 := by kernel_rfl
theorem comp23 : compF Tryd.prog tb Tryd.f23 = some ir23 := by kernel_rfl
theorem comp24 : compF Tryd.prog tb Tryd.f24 = some ir24 := by kernel_rfl
theorem comp25 : compF Tryd.prog tb Tryd.f25 = some ir25 := by kernel_rfl
theorem comp26 : compF Tryd.prog tb Tryd.f26 = some ir26 := by kernel_rfl
theorem comp30 : compF Tryd.prog tb Tryd.f30 = some ir30 := by kernel_rfl
theorem comp31 : compF Tryd.prog tb Tryd.f31 = some ir31 := by kernel_rfl
theorem comp32 : compF Tryd.prog tb Tryd.f32 = some ir32 := by kernel_rfl
theorem comp34 : compF Tryd.prog tb Tryd.f34 = some ir34 := by kernel_rfl
theorem comp35 : compF Tryd.prog tb Tryd.f35 = some ir35 := by kernel_rfl
theorem comp36 : compF Tryd.prog tb Tryd.f36 = some ir36 := by kernel_rfl
theorem comp37 : compF Tryd.prog tb Tryd.f37 = some ir37 := by kernel_rfl
theorem comp38 : compF Tryd.prog tb Tryd.f38 = some ir38 := by kernel_rfl
theorem comp48 : compF Tryd.prog tb Tryd.f48 = some ir48 := by kernel_rfl
theorem comp49 : compF Tryd.prog tb Tryd.f49 = some ir49 := by kernel_rfl
theorem comp53 : compF Tryd.prog tb Tryd.f53 = some ir53 := by kernel_rfl
theorem comp54 : compF Tryd.prog tb Tryd.f54 = some ir54 := by kernel_rfl
theorem comp55 : compF Tryd.prog tb Tryd.f55 = some ir55 := by kernel_rfl
theorem comp56 : compF Tryd.prog tb Tryd.f56 = some ir56 := by kernel_rfl
theorem comp57 : compF Tryd.prog tb Tryd.f57 = some ir57 := by kernel_rfl
theorem comp64 : compF Tryd.prog tb Tryd.f64 = some ir64 := by kernel_rfl
theorem comp65 : compF Tryd.prog tb Tryd.f65 = some ir65 := by kernel_rfl
theorem comp66 : compF Tryd.prog tb Tryd.f66 = some ir66 := by kernel_rfl
theorem comp67 : compF Tryd.prog tb Tryd.f67 = some ir67 := by kernel_rfl
theorem comp71 : compF Tryd.prog tb Tryd.f71 = some ir71 := by kernel_rfl
theorem comp72 : compF Tryd.prog tb Tryd.f72 = some ir72 := by kernel_rfl
theorem comp73 : compF Tryd.prog tb Tryd.f73 = some ir73 := by kernel_rfl
theorem comp74 : compF Tryd.prog tb Tryd.f74 = some ir74 := by kernel_rfl
theorem comp75 : compF Tryd.prog tb Tryd.f75 = some ir75 := by kernel_rfl
theorem comp76 : compF Tryd.prog tb Tryd.f76 = some ir76 := by kernel_rfl
theorem comp77 : compF Tryd.prog tb Tryd.f77 = some ir77 := by kernel_rfl
theorem comp83 : compF Tryd.prog tb Tryd.f83 = some ir83 := by kernel_rfl
theorem comp84 : compF Tryd.prog tb Tryd.f84 = some ir84 := by kernel_rfl
theorem comp85 : compF Tryd.prog tb Tryd.f85 = some ir85 := by kernel_rfl
theorem comp91 : compF Tryd.prog tb Tryd.f91 = some ir91 := by kernel_rfl
theorem comp92 : compF Tryd.prog tb Tryd.f92 = some ir92 := by kernel_rfl
theorem comp93 : compF Tryd.prog tb Tryd.f93 = some ir93 := by kernel_rfl
theorem comp98 : compF Tryd.prog tb Tryd.f98 = some ir98 := by kernel_rfl
theorem comps : ∀ p, p ∈ irs → ∃ fn, Tryd.prog.funcs[p.1]? = some fn ∧ compF Tryd.prog tb fn = some p.2 := by
  intro p hp
  unfold irs at hp
  simp only [List.mem_cons, List.not_mem_nil, or_false] at hp
  rcases hp with rfl | rfl | rfl | rfl | rfl | rfl | rfl | rfl | rfl | rfl | rfl | rfl | rfl | rfl | rfl | rfl | rfl | rfl | rfl | rfl | rfl | rfl | rfl | rfl | rfl | rfl | rfl | rfl | rfl | rfl | rfl | rfl | rfl | rfl | rfl | rfl | rfl | rfl | rfl | rfl | rfl | rfl | rfl | rfl | rfl | rfl | rfl | rfl | rfl | rfl | rfl | rfl | rfl | rfl | rfl
  · exact ⟨_, Tryd.func3, comp3⟩
  · exact ⟨_, Tryd.func4, comp4⟩
  · exact ⟨_, Tryd.func5, comp5⟩
  · exact ⟨_, Tryd.func6, comp6⟩
  · exact ⟨_, Tryd.func7, comp7⟩
  · exact ⟨_, Tryd.func8, comp8⟩
  · exact ⟨_, Tryd.func9, comp9⟩
  · exact ⟨_, Tryd.func10, comp10⟩
  · exact ⟨_, Tryd.func11, comp11⟩
  · exact ⟨_, Tryd.func12, comp12⟩
  · exact ⟨_, Tryd.func13, comp13⟩
  · exact ⟨_, Tryd.func14, comp14⟩
  · exact ⟨_, Tryd.func15, comp15⟩
  · exact ⟨_, Tryd.func16, comp16⟩
  · exact ⟨_, Tryd.func17, comp17⟩
  · exact ⟨_, Tryd.func18, comp18⟩
  · exact ⟨_, Tryd.func19, comp19⟩
  · exact ⟨_, Tryd.func20, comp20⟩
  · exact ⟨_, Tryd.func23, comp23⟩
  · exact ⟨_, Tryd.func24, comp24⟩
  · exact ⟨_, Tryd.func25, comp25⟩
  · exact ⟨_, Tryd.func26, comp26⟩
  · exact ⟨_, Tryd.func30, comp30⟩
  · exact ⟨_, Tryd.func31, comp31⟩
  · exact ⟨_, Tryd.func32, comp32⟩
  · exact ⟨_, Tryd.func34, comp34⟩
  · exact ⟨_, Tryd.func35, comp35⟩
  · exact ⟨_, Tryd.func36, comp36⟩
  · exact ⟨_, Tryd.func37, comp37⟩
  · exact ⟨_, Tryd.func38, comp38⟩
  · exact ⟨_, Tryd.func48, comp48⟩
  · exact ⟨_, Tryd.func49, comp49⟩
  · exact ⟨_, Tryd.func53, comp53⟩
  · exact ⟨_, Tryd.func54, comp54⟩
  · exact ⟨_, Tryd.func55, comp55⟩
  · exact ⟨_, Tryd.func56, comp56⟩
  · exact ⟨_, Tryd.func57, comp57⟩
  · exact ⟨_, Tryd.func64, comp64⟩
  · exact ⟨_, Tryd.func65, comp65⟩
  · exact ⟨_, Tryd.func66, comp66⟩
  · exact ⟨_, Tryd.func67, comp67⟩
  · exact ⟨_, Tryd.func71, comp71⟩
  · exact ⟨_, Tryd.func72, comp72⟩
  · exact ⟨_, Tryd.func73, comp73⟩
  · exact ⟨_, Tryd.func74, comp74⟩
  · exact ⟨_, Tryd.func75, comp75⟩
  · exact ⟨_, Tryd.func76, comp76⟩
  · exact ⟨_, Tryd.func77, comp77⟩
  · exact ⟨_, Tryd.func83, comp83⟩
  · exact ⟨_, Tryd.func84, comp84⟩
  · exact ⟨_, Tryd.func85, comp85⟩
  · exact ⟨_, Tryd.func91, comp91⟩
  · exact ⟨_, Tryd.func92, comp92⟩
  · exact ⟨_, Tryd.func93, comp93⟩
  · exact ⟨_, Tryd.func98, comp98⟩
end Go.Proofs.YtienhfkjhdbnbaaDoor
