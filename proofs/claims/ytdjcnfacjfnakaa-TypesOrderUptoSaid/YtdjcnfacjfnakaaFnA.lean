/- The forms are those of the program's functions. -/
import Derived.Test.YtdjcnfacjfnakaaIrA
import Derived.Test.YtdjcnfacjfnakaaProg
import Derived.KernelRfl
set_option maxRecDepth 10000
namespace Go.Proofs.Ytdjcnfacjfnakaa
open Go.Pi
theorem comp3 : compF Try.prog tb Try.f3 = some ir3 := by kernel_rfl
theorem comp4 : compF Try.prog tb Try.f4 = some ir4 := by kernel_rfl
theorem comp5 : compF Try.prog tb Try.f5 = some ir5 := by kernel_rfl
theorem comp6 : compF Try.prog tb Try.f6 = some ir6 := by kernel_rfl
theorem comp7 : compF Try.prog tb Try.f7 = some ir7 := by kernel_rfl
theorem comp8 : compF Try.prog tb Try.f8 = some ir8 := by kernel_rfl
theorem comp9 : compF Try.prog tb Try.f9 = some ir9 := by kernel_rfl
theorem comp10 : compF Try.prog tb Try.f10 = some ir10 := by kernel_rfl
theorem comp11 : compF Try.prog tb Try.f11 = some ir11 := by kernel_rfl
theorem comp12 : compF Try.prog tb Try.f12 = some ir12 := by kernel_rfl
theorem comp13 : compF Try.prog tb Try.f13 = some ir13 := by kernel_rfl
theorem comp14 : compF Try.prog tb Try.f14 = some ir14 := by kernel_rfl
theorem comp15 : compF Try.prog tb Try.f15 = some ir15 := by kernel_rfl
theorem comp16 : compF Try.prog tb Try.f16 = some ir16 := by kernel_rfl
theorem comp17 : compF Try.prog tb Try.f17 = some ir17 := by kernel_rfl
theorem comp18 : compF Try.prog tb Try.f18 = some ir18 := by kernel_rfl
theorem comp19 : compF Try.prog tb Try.f19 = some ir19 := by kernel_rfl
theorem comp20 : compF Try.prog tb Try.f20 = some ir20 := by kernel_rfl
theorem comp21 : compF Try.prog tb Try.f21 = some ir21 := by kernel_rfl
theorem comp22 : compF Try.prog tb Try.f22 = some ir22 := by kernel_rfl
theorem comp23 : compF Try.prog tb Try.f23 = some ir23 := by kernel_rfl
theorem comp24 : compF Try.prog tb Try.f24 = some ir24 := by kernel_rfl
theorem comp25 : compF Try.prog tb Try.f25 = some ir25 := by kernel_rfl
theorem comp26 : compF Try.prog tb Try.f26 = some ir26 := by kernel_rfl
theorem comp27 : compF Try.prog tb Try.f27 = some ir27 := by kernel_rfl
theorem comp28 : compF Try.prog tb Try.f28 = some ir28 := by kernel_rfl
theorem comp29 : compF Try.prog tb Try.f29 = some ir29 := by kernel_rfl
theorem comp30 : compF Try.prog tb Try.f30 = some ir30 := by kernel_rfl
theorem comp31 : compF Try.prog tb Try.f31 = some ir31 := by kernel_rfl
theorem comp32 : compF Try.prog tb Try.f32 = some ir32 := by kernel_rfl
theorem comp33 : compF Try.prog tb Try.f33 = some ir33 := by kernel_rfl
theorem comp34 : compF Try.prog tb Try.f34 = some ir34 := by kernel_rfl
theorem comp35 : compF Try.prog tb Try.f35 = some ir35 := by kernel_rfl
theorem comp36 : compF Try.prog tb Try.f36 = some ir36 := by kernel_rfl
theorem comp37 : compF Try.prog tb Try.f37 = some ir37 := by kernel_rfl
theorem comp38 : compF Try.prog tb Try.f38 = some ir38 := by kernel_rfl
theorem comp39 : compF Try.prog tb Try.f39 = some ir39 := by kernel_rfl
theorem comp40 : compF Try.prog tb Try.f40 = some ir40 := by kernel_rfl
theorem comp41 : compF Try.prog tb Try.f41 = some ir41 := by kernel_rfl
theorem comp42 : compF Try.prog tb Try.f42 = some ir42 := by kernel_rfl
theorem comp43 : compF Try.prog tb Try.f43 = some ir43 := by kernel_rfl
theorem comp44 : compF Try.prog tb Try.f44 = some ir44 := by kernel_rfl
theorem comp45 : compF Try.prog tb Try.f45 = some ir45 := by kernel_rfl
theorem comp46 : compF Try.prog tb Try.f46 = some ir46 := by kernel_rfl
theorem comp47 : compF Try.prog tb Try.f47 = some ir47 := by kernel_rfl
theorem comp48 : compF Try.prog tb Try.f48 = some ir48 := by kernel_rfl
theorem comp49 : compF Try.prog tb Try.f49 = some ir49 := by kernel_rfl
theorem comp50 : compF Try.prog tb Try.f50 = some ir50 := by kernel_rfl
theorem comp51 : compF Try.prog tb Try.f51 = some ir51 := by kernel_rfl
theorem comp52 : compF Try.prog tb Try.f52 = some ir52 := by kernel_rfl
theorem comp53 : compF Try.prog tb Try.f53 = some ir53 := by kernel_rfl
theorem comp54 : compF Try.prog tb Try.f54 = some ir54 := by kernel_rfl
theorem comp55 : compF Try.prog tb Try.f55 = some ir55 := by kernel_rfl
theorem comp56 : compF Try.prog tb Try.f56 = some ir56 := by kernel_rfl
theorem comp57 : compF Try.prog tb Try.f57 = some ir57 := by kernel_rfl
theorem comp58 : compF Try.prog tb Try.f58 = some ir58 := by kernel_rfl
theorem comp59 : compF Try.prog tb Try.f59 = some ir59 := by kernel_rfl
theorem comp60 : compF Try.prog tb Try.f60 = some ir60 := by kernel_rfl
theorem comp61 : compF Try.prog tb Try.f61 = some ir61 := by kernel_rfl
theorem comp62 : compF Try.prog tb Try.f62 = some ir62 := by kernel_rfl
theorem comp63 : compF Try.prog tb Try.f63 = some ir63 := by kernel_rfl
theorem comp64 : compF Try.prog tb Try.f64 = some ir64 := by kernel_rfl
theorem comp65 : compF Try.prog tb Try.f65 = some ir65 := by kernel_rfl
theorem comp66 : compF Try.prog tb Try.f66 = some ir66 := by kernel_rfl
theorem comp67 : compF Try.prog tb Try.f67 = some ir67 := by kernel_rfl
theorem comp68 : compF Try.prog tb Try.f68 = some ir68 := by kernel_rfl
theorem comp69 : compF Try.prog tb Try.f69 = some ir69 := by kernel_rfl
theorem comp70 : compF Try.prog tb Try.f70 = some ir70 := by kernel_rfl
theorem comp71 : compF Try.prog tb Try.f71 = some ir71 := by kernel_rfl
theorem comp72 : compF Try.prog tb Try.f72 = some ir72 := by kernel_rfl
theorem comp73 : compF Try.prog tb Try.f73 = some ir73 := by kernel_rfl
theorem comp74 : compF Try.prog tb Try.f74 = some ir74 := by kernel_rfl
theorem comp75 : compF Try.prog tb Try.f75 = some ir75 := by kernel_rfl
theorem comps : ∀ p, p ∈ irs → ∃ fn, Try.prog.funcs[p.1]? = some fn ∧ compF Try.prog tb fn = some p.2 := by
  intro p hp
  unfold irs at hp
  simp only [List.mem_cons, List.not_mem_nil, or_false] at hp
  rcases hp with rfl | rfl | rfl | rfl | rfl | rfl | rfl | rfl | rfl | rfl | rfl | rfl | rfl | rfl | rfl | rfl | rfl | rfl | rfl | rfl | rfl | rfl | rfl | rfl | rfl | rfl | rfl | rfl | rfl | rfl | rfl | rfl | rfl | rfl | rfl | rfl | rfl | rfl | rfl | rfl | rfl | rfl | rfl | rfl | rfl | rfl | rfl | rfl | rfl | rfl | rfl | rfl | rfl | rfl | rfl | rfl | rfl | rfl | rfl | rfl | rfl | rfl | rfl | rfl | rfl | rfl | rfl | rfl | rfl | rfl | rfl | rfl | rfl
  · exact ⟨_, Try.func3, comp3⟩
  · exact ⟨_, Try.func4, comp4⟩
  · exact ⟨_, Try.func5, comp5⟩
  · exact ⟨_, Try.func6, comp6⟩
  · exact ⟨_, Try.func7, comp7⟩
  · exact ⟨_, Try.func8, comp8⟩
  · exact ⟨_, Try.func9, comp9⟩
  · exact ⟨_, Try.func10, comp10⟩
  · exact ⟨_, Try.func11, comp11⟩
  · exact ⟨_, Try.func12, comp12⟩
  · exact ⟨_, Try.func13, comp13⟩
  · exact ⟨_, Try.func14, comp14⟩
  · exact ⟨_, Try.func15, comp15⟩
  · exact ⟨_, Try.func16, comp16⟩
  · exact ⟨_, Try.func17, comp17⟩
  · exact ⟨_, Try.func18, comp18⟩
  · exact ⟨_, Try.func19, comp19⟩
  · exact ⟨_, Try.func20, comp20⟩
  · exact ⟨_, Try.func21, comp21⟩
  · exact ⟨_, Try.func22, comp22⟩
  · exact ⟨_, Try.func23, comp23⟩
  · exact ⟨_, Try.func24, comp24⟩
  · exact ⟨_, Try.func25, comp25⟩
  · exact ⟨_, Try.func26, comp26⟩
  · exact ⟨_, Try.func27, comp27⟩
  · exact ⟨_, Try.func28, comp28⟩
  · exact ⟨_, Try.func29, comp29⟩
  · exact ⟨_, Try.func30, comp30⟩
  · exact ⟨_, Try.func31, comp31⟩
  · exact ⟨_, Try.func32, comp32⟩
  · exact ⟨_, Try.func33, comp33⟩
  · exact ⟨_, Try.func34, comp34⟩
  · exact ⟨_, Try.func35, comp35⟩
  · exact ⟨_, Try.func36, comp36⟩
  · exact ⟨_, Try.func37, comp37⟩
  · exact ⟨_, Try.func38, comp38⟩
  · exact ⟨_, Try.func39, comp39⟩
  · exact ⟨_, Try.func40, comp40⟩
  · exact ⟨_, Try.func41, comp41⟩
  · exact ⟨_, Try.func42, comp42⟩
  · exact ⟨_, Try.func43, comp43⟩
  · exact ⟨_, Try.func44, comp44⟩
  · exact ⟨_, Try.func45, comp45⟩
  · exact ⟨_, Try.func46, comp46⟩
  · exact ⟨_, Try.func47, comp47⟩
  · exact ⟨_, Try.func48, comp48⟩
  · exact ⟨_, Try.func49, comp49⟩
  · exact ⟨_, Try.func50, comp50⟩
  · exact ⟨_, Try.func51, comp51⟩
  · exact ⟨_, Try.func52, comp52⟩
  · exact ⟨_, Try.func53, comp53⟩
  · exact ⟨_, Try.func54, comp54⟩
  · exact ⟨_, Try.func55, comp55⟩
  · exact ⟨_, Try.func56, comp56⟩
  · exact ⟨_, Try.func57, comp57⟩
  · exact ⟨_, Try.func58, comp58⟩
  · exact ⟨_, Try.func59, comp59⟩
  · exact ⟨_, Try.func60, comp60⟩
  · exact ⟨_, Try.func61, comp61⟩
  · exact ⟨_, Try.func62, comp62⟩
  · exact ⟨_, Try.func63, comp63⟩
  · exact ⟨_, Try.func64, comp64⟩
  · exact ⟨_, Try.func65, comp65⟩
  · exact ⟨_, Try.func66, comp66⟩
  · exact ⟨_, Try.func67, comp67⟩
  · exact ⟨_, Try.func68, comp68⟩
  · exact ⟨_, Try.func69, comp69⟩
  · exact ⟨_, Try.func70, comp70⟩
  · exact ⟨_, Try.func71, comp71⟩
  · exact ⟨_, Try.func72, comp72⟩
  · exact ⟨_, Try.func73, comp73⟩
  · exact ⟨_, Try.func74, comp74⟩
  · exact ⟨_, Try.func75, comp75⟩
end Go.Proofs.Ytdjcnfacjfnakaa
