/- The forms are those of the program's functions. -/
import Derived.Test.YtbkphlhmbllbiaaGreatDoorIrA
import Derived.Test.YtbkphlhmbllbiaaGreatDoorProg
import Derived.KernelRfl
set_option maxRecDepth 10000
namespace Go.Proofs.YtbkphlhmbllbiaaGreatDoor
open Go.Pi
theorem comp3 : compF Tryz.prog tb Tryz.f3 = some ir3 := by kernel_rfl
theorem comp4 : compF Tryz.prog tb Tryz.f4 = some ir4 := by kernel_rfl
theorem comp5 : compF Tryz.prog tb Tryz.f5 = some ir5 := by kernel_rfl
theorem comp6 : compF Tryz.prog tb Tryz.f6 = some ir6 := by kernel_rfl
theorem comp7 : compF Tryz.prog tb Tryz.f7 = some ir7 := by kernel_rfl
theorem comp8 : compF Tryz.prog tb Tryz.f8 = some ir8 := by kernel_rfl
theorem comp9 : compF Tryz.prog tb Tryz.f9 = some ir9 := by kernel_rfl
theorem comp10 : compF Tryz.prog tb Tryz.f10 = some ir10 := by kernel_rfl
theorem comp12 : compF Tryz.prog tb Tryz.f12 = some ir12 := by kernel_rfl
theorem comp13 : compF Tryz.prog tb Tryz.f13 = some ir13 := by kernel_rfl
theorem comp14 : compF Tryz.prog tb Tryz.f14 = some ir14 := by kernel_rfl
theorem comp15 : compF Tryz.prog tb Tryz.f15 = some ir15 := by kernel_rfl
theorem comp16 : compF Tryz.prog tb Tryz.f16 = some ir16 := by kernel_rfl
theorem comp17 : compF Tryz.prog tb Tryz.f17 = some ir17 := by kernel_rfl
theorem comp18 : compF Tryz.prog tb Tryz.f18 = some ir18 := by kernel_rfl
theorem comp19 : compF Tryz.prog tb Tryz.f19 = some ir19 := by kernel_rfl
theorem comp20 : compF Tryz.prog tb Tryz.f20 = some ir20 := by kernel_rfl
theorem comp21 : compF Tryz.prog tb Tryz.f21 = some ir21 := by kernel_rfl
theorem comp22 : compF Tryz.prog tb Tryz.f22 = some ir22 := by kernel_rfl
theorem comp23 : compF Tryz.prog tb Tryz.f23 = some ir23 := by kernel_rfl
theorem comp24 : compF Tryz.prog tb Tryz.f24 = some ir24 := by kernel_rfl
theorem comp25 : compF Tryz.prog tb Tryz.f25 = some ir25 := by kernel_rfl
theorem comp27 : compF Tryz.prog tb Tryz.f27 = some ir27 := by kernel_rfl
theorem comp28 : compF Tryz.prog tb Tryz.f28 = some ir28 := by kernel_rfl
theorem comp29 : compF Tryz.prog tb Tryz.f29 = some ir29 := by kernel_rfl
theorem comp31 : compF Tryz.prog tb Tryz.f31 = some ir31 := by kernel_rfl
theorem comp32 : compF Tryz.prog tb Tryz.f32 = some ir32 := by kernel_rfl
theorem comp33 : compF Tryz.prog tb Tryz.f33 = some ir33 := by kernel_rfl
theorem comp34 : compF Tryz.prog tb Tryz.f34 = some ir34 := by kernel_rfl
theorem comp35 : compF Tryz.prog tb Tryz.f35 = some ir35 := by kernel_rfl
theorem comp36 : compF Tryz.prog tb Tryz.f36 = some ir36 := by kernel_rfl
theorem comp37 : compF Tryz.prog tb Tryz.f37 = some ir37 := by kernel_rfl
theorem comp38 : compF Tryz.prog tb Tryz.f38 = some ir38 := by kernel_rfl
theorem comp39 : compF Tryz.prog tb Tryz.f39 = some ir39 := by kernel_rfl
theorem comp40 : compF Tryz.prog tb Tryz.f40 = some ir40 := by kernel_rfl
theorem comp41 : compF Tryz.prog tb Tryz.f41 = some ir41 := by kernel_rfl
theorem comp42 : compF Tryz.prog tb Tryz.f42 = some ir42 := by kernel_rfl
theorem comp43 : compF Tryz.prog tb Tryz.f43 = some ir43 := by kernel_rfl
theorem comp44 : compF Tryz.prog tb Tryz.f44 = some ir44 := by kernel_rfl
theorem comp46 : compF Tryz.prog tb Tryz.f46 = some ir46 := by kernel_rfl
theorem comp47 : compF Tryz.prog tb Tryz.f47 = some ir47 := by kernel_rfl
theorem comp48 : compF Tryz.prog tb Tryz.f48 = some ir48 := by kernel_rfl
theorem comp50 : compF Tryz.prog tb Tryz.f50 = some ir50 := by kernel_rfl
theorem comp51 : compF Tryz.prog tb Tryz.f51 = some ir51 := by kernel_rfl
theorem comp52 : compF Tryz.prog tb Tryz.f52 = some ir52 := by kernel_rfl
theorem comp53 : compF Tryz.prog tb Tryz.f53 = some ir53 := by kernel_rfl
theorem comp54 : compF Tryz.prog tb Tryz.f54 = some ir54 := by kernel_rfl
theorem comp55 : compF Tryz.prog tb Tryz.f55 = some ir55 := by kernel_rfl
theorem comp56 : compF Tryz.prog tb Tryz.f56 = some ir56 := by kernel_rfl
theorem comp57 : compF Tryz.prog tb Tryz.f57 = some ir57 := by kernel_rfl
theorem comp59 : compF Tryz.prog tb Tryz.f59 = some ir59 := by kernel_rfl
theorem comp60 : compF Tryz.prog tb Tryz.f60 = some ir60 := by kernel_rfl
theorem comp61 : compF Tryz.prog tb Tryz.f61 = some ir61 := by kernel_rfl
theorem comp62 : compF Tryz.prog tb Tryz.f62 = some ir62 := by kernel_rfl
theorem comp68 : compF Tryz.prog tb Tryz.f68 = some ir68 := by kernel_rfl
theorem comp72 : compF Tryz.prog tb Tryz.f72 = some ir72 := by kernel_rfl
theorem comp73 : compF Tryz.prog tb Tryz.f73 = some ir73 := by kernel_rfl
theorem comp74 : compF Tryz.prog tb Tryz.f74 = some ir74 := by kernel_rfl
theorem comp75 : compF Tryz.prog tb Tryz.f75 = some ir75 := by kernel_rfl
theorem comp78 : compF Tryz.prog tb Tryz.f78 = some ir78 := by kernel_rfl
theorem comp79 : compF Tryz.prog tb Tryz.f79 = some ir79 := by kernel_rfl
theorem comp80 : compF Tryz.prog tb Tryz.f80 = some ir80 := by kernel_rfl
theorem comp90 : compF Tryz.prog tb Tryz.f90 = some ir90 := by kernel_rfl
theorem comp103 : compF Tryz.prog tb Tryz.f103 = some ir103 := by kernel_rfl
theorem comps : ∀ p, p ∈ irs → ∃ fn, Tryz.prog.funcs[p.1]? = some fn ∧ compF Tryz.prog tb fn = some p.2 := by
  intro p hp
  unfold irs at hp
  simp only [List.mem_cons, List.not_mem_nil, or_false] at hp
  rcases hp with rfl | rfl | rfl | rfl | rfl | rfl | rfl | rfl | rfl | rfl | rfl | rfl | rfl | rfl | rfl | rfl | rfl | rfl | rfl | rfl | rfl | rfl | rfl | rfl | rfl | rfl | rfl | rfl | rfl | rfl | rfl | rfl | rfl | rfl | rfl | rfl | rfl | rfl | rfl | rfl | rfl | rfl | rfl | rfl | rfl | rfl | rfl | rfl | rfl | rfl | rfl | rfl | rfl | rfl | rfl | rfl | rfl | rfl | rfl | rfl | rfl | rfl | rfl | rfl
  · exact ⟨_, Tryz.func3, comp3⟩
  · exact ⟨_, Tryz.func4, comp4⟩
  · exact ⟨_, Tryz.func5, comp5⟩
  · exact ⟨_, Tryz.func6, comp6⟩
  · exact ⟨_, Tryz.func7, comp7⟩
  · exact ⟨_, Tryz.func8, comp8⟩
  · exact ⟨_, Tryz.func9, comp9⟩
  · exact ⟨_, Tryz.func10, comp10⟩
  · exact ⟨_, Tryz.func12, comp12⟩
  · exact ⟨_, Tryz.func13, comp13⟩
  · exact ⟨_, Tryz.func14, comp14⟩
  · exact ⟨_, Tryz.func15, comp15⟩
  · exact ⟨_, Tryz.func16, comp16⟩
  · exact ⟨_, Tryz.func17, comp17⟩
  · exact ⟨_, Tryz.func18, comp18⟩
  · exact ⟨_, Tryz.func19, comp19⟩
  · exact ⟨_, Tryz.func20, comp20⟩
  · exact ⟨_, Tryz.func21, comp21⟩
  · exact ⟨_, Tryz.func22, comp22⟩
  · exact ⟨_, Tryz.func23, comp23⟩
  · exact ⟨_, Tryz.func24, comp24⟩
  · exact ⟨_, Tryz.func25, comp25⟩
  · exact ⟨_, Tryz.func27, comp27⟩
  · exact ⟨_, Tryz.func28, comp28⟩
  · exact ⟨_, Tryz.func29, comp29⟩
  · exact ⟨_, Tryz.func31, comp31⟩
  · exact ⟨_, Tryz.func32, comp32⟩
  · exact ⟨_, Tryz.func33, comp33⟩
  · exact ⟨_, Tryz.func34, comp34⟩
  · exact ⟨_, Tryz.func35, comp35⟩
  · exact ⟨_, Tryz.func36, comp36⟩
  · exact ⟨_, Tryz.func37, comp37⟩
  · exact ⟨_, Tryz.func38, comp38⟩
  · exact ⟨_, Tryz.func39, comp39⟩
  · exact ⟨_, Tryz.func40, comp40⟩
  · exact ⟨_, Tryz.func41, comp41⟩
  · exact ⟨_, Tryz.func42, comp42⟩
  · exact ⟨_, Tryz.func43, comp43⟩
  · exact ⟨_, Tryz.func44, comp44⟩
  · exact ⟨_, Tryz.func46, comp46⟩
  · exact ⟨_, Tryz.func47, comp47⟩
  · exact ⟨_, Tryz.func48, comp48⟩
  · exact ⟨_, Tryz.func50, comp50⟩
  · exact ⟨_, Tryz.func51, comp51⟩
  · exact ⟨_, Tryz.func52, comp52⟩
  · exact ⟨_, Tryz.func53, comp53⟩
  · exact ⟨_, Tryz.func54, comp54⟩
  · exact ⟨_, Tryz.func55, comp55⟩
  · exact ⟨_, Tryz.func56, comp56⟩
  · exact ⟨_, Tryz.func57, comp57⟩
  · exact ⟨_, Tryz.func59, comp59⟩
  · exact ⟨_, Tryz.func60, comp60⟩
  · exact ⟨_, Tryz.func61, comp61⟩
  · exact ⟨_, Tryz.func62, comp62⟩
  · exact ⟨_, Tryz.func68, comp68⟩
  · exact ⟨_, Tryz.func72, comp72⟩
  · exact ⟨_, Tryz.func73, comp73⟩
  · exact ⟨_, Tryz.func74, comp74⟩
  · exact ⟨_, Tryz.func75, comp75⟩
  · exact ⟨_, Tryz.func78, comp78⟩
  · exact ⟨_, Tryz.func79, comp79⟩
  · exact ⟨_, Tryz.func80, comp80⟩
  · exact ⟨_, Tryz.func90, comp90⟩
  · exact ⟨_, Tryz.func103, comp103⟩
end Go.Proofs.YtbkphlhmbllbiaaGreatDoor
