/- The forms are those of the program's functions. -/
import Derived.Test.YtamkdkieffgpiaaDoorIrA
import Derived.Test.YtamkdkieffgpiaaDoorProg
import Derived.KernelRfl
set_option maxRecDepth 10000
namespace Go.Proofs.YtamkdkieffgpiaaDoor
open Go.Pi
theorem comp3 : compF Tryd.prog tb Tryd.f3 = some ir3 := by kernel_rfl
theorem comp4 : compF Tryd.prog tb Tryd.f4 = some ir4 := by kernel_rfl
theorem comp5 : compF Tryd.prog tb Tryd.f5 = some ir5 := by kernel_rfl
theorem comp6 : compF Tryd.prog tb Tryd.f6 = some ir6 := by kernel_rfl
theorem comp7 : compF Tryd.prog tb Tryd.f7 = some ir7 := by kernel_rfl
theorem comp8 : compF Tryd.prog tb Tryd.f8 = some ir8 := by kernel_rfl
theorem comp9 : compF Tryd.prog tb Tryd.f9 = some ir9 := by kernel_rfl
theorem comp10 : compF Tryd.prog tb Tryd.f10 = some ir10 := by kernel_rfl
theorem comp11 : compF Tryd.prog tb Tryd.f11 = some ir11 := by kernel_rfl
theorem comp12 : compF Tryd.prog tb Tryd.f12 = some ir12 := by kernel_rfl
theorem comp13 : compF Tryd.prog tb Tryd.f13 = some ir13 := by kernel_rfl
theorem comp14 : compF Tryd.prog tb Tryd.f14 = some ir14 := by kernel_rfl
theorem comp15 : compF Tryd.prog tb Tryd.f15 = some ir15 := by kernel_rfl
theorem comp16 : compF Tryd.prog tb Tryd.f16 = some ir16 := by kernel_rfl
theorem comp17 : compF Tryd.prog tb Tryd.f17 = some ir17 := by kernel_rfl
theorem comp18 : compF Tryd.prog tb Tryd.f18 = some ir18 := by kernel_rfl
theorem comp19 : compF Tryd.prog tb Tryd.f19 = some ir19 := by kernel_rfl
theorem comp20 : compF Tryd.prog tb Tryd.f20 = some ir20 := by kernel_rfl
theorem comp21 : compF Tryd.prog tb Tryd.f21 = some ir21 := by kernel_rfl
theorem comp22 : compF Tryd.prog tb Tryd.f22 = some ir22 := by kernel_rfl
theorem comp23 : compF Tryd.prog tb Tryd.f23 = some ir23 := by kernel_rfl
theorem comp24 : compF Tryd.prog tb Tryd.f24 = some ir24 := by kernel_rfl
theorem comp25 : compF Tryd.prog tb Tryd.f25 = some ir25 := by kernel_rfl
theorem comp26 : compF Tryd.prog tb Tryd.f26 = some ir26 := by kernel_rfl
theorem comp27 : compF Tryd.prog tb Tryd.f27 = some ir27 := by kernel_rfl
theorem comp28 : compF Tryd.prog tb Tryd.f28 = some ir28 := by kernel_rfl
theorem comp29 : compF Tryd.prog tb Tryd.f29 = some ir29 := by kernel_rfl
theorem comp30 : compF Tryd.prog tb Tryd.f30 = some ir30 := by kernel_rfl
theorem comp31 : compF Tryd.prog tb Tryd.f31 = some ir31 := by kernel_rfl
theorem comp34 : compF Tryd.prog tb Tryd.f34 = some ir34 := by kernel_rfl
theorem comp35 : compF Tryd.prog tb Tryd.f35 = some ir35 := by kernel_rfl
theorem comp36 : compF Tryd.prog tb Tryd.f36 = some ir36 := by kernel_rfl
theorem comp37 : compF Tryd.prog tb Tryd.f37 = some ir37 := by kernel_rfl
theorem comp38 : compF Tryd.prog tb Tryd.f38 = some ir38 := by kernel_rfl
theorem comp42 : compF Tryd.prog tb Tryd.f42 = some ir42 := by kernel_rfl
theorem comps : ∀ p, p ∈ irs → ∃ fn, Tryd.prog.funcs[p.1]? = some fn ∧ compF Tryd.prog tb fn = some p.2 := by
  intro p hp
  unfold irs at hp
  simp only [List.mem_cons, List.not_mem_nil, or_false] at hp
  rcases hp with rfl | rfl | rfl | rfl | rfl | rfl | rfl | rfl | rfl | rfl | rfl | rfl | rfl | rfl | rfl | rfl | rfl | rfl | rfl | rfl | rfl | rfl | rfl | rfl | rfl | rfl | rfl | rfl | rfl | rfl | rfl | rfl | rfl | rfl | rfl
  · exact ⟨_, Tryd.func3, comp3⟩
  · exact ⟨_, Tryd.func4, comp4⟩
  · exact ⟨_, Tryd.func5, comp5⟩
  · exact ⟨_, Tryd.func6, comp6⟩
  · exact ⟨_, Tryd.func7, comp7⟩
  · exact ⟨_, Tryd.func8, comp8⟩
  · exact ⟨_, Tryd.func9, comp9⟩
  · exact ⟨_, Tryd.func10, comp10⟩
  · exact ⟨_, Tryd.func11, comp11⟩
  · exact ⟨_, Tryd.func12, comp12⟩
  · exact ⟨_, Tryd.func13, comp13⟩
  · exact ⟨_, Tryd.func14, comp14⟩
  · exact ⟨_, Tryd.func15, comp15⟩
  · exact ⟨_, Tryd.func16, comp16⟩
  · exact ⟨_, Tryd.func17, comp17⟩
  · exact ⟨_, Tryd.func18, comp18⟩
  · exact ⟨_, Tryd.func19, comp19⟩
  · exact ⟨_, Tryd.func20, comp20⟩
  · exact ⟨_, Tryd.func21, comp21⟩
  · exact ⟨_, Tryd.func22, comp22⟩
  · exact ⟨_, Tryd.func23, comp23⟩
  · exact ⟨_, Tryd.func24, comp24⟩
  · exact ⟨_, Tryd.func25, comp25⟩
  · exact ⟨_, Tryd.func26, comp26⟩
  · exact ⟨_, Tryd.func27, comp27⟩
  · exact ⟨_, Tryd.func28, comp28⟩
  · exact ⟨_, Tryd.func29, comp29⟩
  · exact ⟨_, Tryd.func30, comp30⟩
  · exact ⟨_, Tryd.func31, comp31⟩
  · exact ⟨_, Tryd.func34, comp34⟩
  · exact ⟨_, Tryd.func35, comp35⟩
  · exact ⟨_, Tryd.func36, comp36⟩
  · exact ⟨_, Tryd.func37, comp37⟩
  · exact ⟨_, Tryd.func38, comp38⟩
  · exact ⟨_, Tryd.func42, comp42⟩
end Go.Proofs.YtamkdkieffgpiaaDoor
