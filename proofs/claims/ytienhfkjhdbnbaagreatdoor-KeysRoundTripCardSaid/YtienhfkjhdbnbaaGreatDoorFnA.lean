/- The forms are those of the program's functions. -/
import Derived.Test.YtienhfkjhdbnbaaGreatDoorIrA
import Derived.Test.YtienhfkjhdbnbaaGreatDoorProg
import Derived.KernelRfl
set_option maxRecDepth 10000
namespace Go.Proofs.YtienhfkjhdbnbaaGreatDoor
open Go.Pi
theorem comp3 : compF Tryz.prog tb Tryz.f3 = some ir3 := by kernel_rfl
theorem comp4 : compF Tryz.prog tb Tryz.f4 = some ir4 := by kernel_rfl
theorem comp5 : compF Tryz.prog tb Tryz.f5 = some ir5 := by kernel_rfl
theorem comp6 : compF Tryz.prog tb Tryz.f6 = some ir6 := by kernel_rfl
theorem comp7 : compF Tryz.prog tb Tryz.f7 = some ir7 := by kernel_rfl
theorem comp8 : compF Tryz.prog tb Tryz.f8 = some ir8 := by kernel_rfl
theorem comp9 : compF Tryz.prog tb Tryz.f9 = some ir9 := by kernel_rfl
theorem comp10 : compF Tryz.prog tb Tryz.f10 = some ir10 := by kernel_rfl
theorem comp11 : compF Tryz.prog tb Tryz.f11 = some ir11 := by kernel_rfl
theorem comp12 : compF Tryz.prog tb Tryz.f12 = some ir12 := by kernel_rfl
theorem comp13 : compF Tryz.prog tb Tryz.f13 = some ir13 := by kernel_rfl
theorem comp14 : compF Tryz.prog tb Tryz.f14 = some ir14 := by kernel_rfl
theorem comp15 : compF Tryz.prog tb Tryz.f15 = some ir15 := by kernel_rfl
theorem comp16 : compF Tryz.prog tb Tryz.f16 = some ir16 := by kernel_rfl
theorem comp17 : compF Tryz.prog tb Tryz.f17 = some ir17 := by kernel_rfl
theorem comp18 : compF Tryz.prog tb Tryz.f18 = some ir18 := by kernel_rfl
theorem comp19 : compF Tryz.prog tb Tryz.f19 = some ir19 := by kernel_rfl
theorem comp20 : compF Tryz.prog tb Tryz.f20 = some ir20 := by kernel_rfl
theorem comp21 : compF Tryz.prog tb Tryz.f21 = some ir21 := by kernel_rfl
theorem comp22 : compF Tryz.prog tb Tryz.f22 = some ir22 := by kernel_rfl
theorem comp23 : compF Tryz.prog tb Tryz.f23 = some ir23 := by kernel_rfl
theorem comp24 : compF Tryz.prog tb Tryz.f24 = some ir24 := by kernel_rfl
theorem comp25 : compF Tryz.prog tb Tryz.f25 = some ir25 := by kernel_rfl
theorem comp26 : compF Tryz.prog tb Tryz.f26 = some ir26 := by kernel_rfl
theorem comp27 : compF Tryz.prog tb Tryz.f27 = some ir27 := by kernel_rfl
theorem comp28 : compF Tryz.prog tb Tryz.f28 = some ir28 := by kernel_rfl
theorem comp30 : compF Tryz.prog tb Tryz.f30 = some ir30 := by kernel_rfl
theorem comp31 : compF Tryz.prog tb Tryz.f31 = some ir31 := by kernel_rfl
theorem comp34 : compF Tryz.prog tb Tryz.f34 = some ir34 := by kernel_rfl
theorem comp35 : compF Tryz.prog tb Tryz.f35 = some ir35 := by kernel_rfl
theorem comp36 : compF Tryz.prog tb Tryz.f36 = some ir36 := by kernel_rfl
theorem comp37 : compF Tryz.prog tb Tryz.f37 = some ir37 := by kernel_rfl
theorem comp38 : compF Tryz.prog tb Tryz.f38 = some ir38 := by kernel_rfl
theorem comp39 : compF Tryz.prog tb Tryz.f39 = some ir39 := by kernel_rfl
theorem comp40 : compF Tryz.prog tb Tryz.f40 = some ir40 := by kernel_rfl
theorem comp41 : compF Tryz.prog tb Tryz.f41 = some ir41 := by kernel_rfl
theorem comp45 : compF Tryz.prog tb Tryz.f45 = some ir45 := by kernel_rfl
theorem comp49 : compF Tryz.prog tb Tryz.f49 = some ir49 := by kernel_rfl
theorem comp50 : compF Tryz.prog tb Tryz.f50 = some ir50 := by kernel_rfl
theorem comp51 : compF Tryz.prog tb Tryz.f51 = some ir51 := by kernel_rfl
theorem comp52 : compF Tryz.prog tb Tryz.f52 = some ir52 := by kernel_rfl
theorem comp53 : compF Tryz.prog tb Tryz.f53 = some ir53 := by kernel_rfl
theorem comp54 : compF Tryz.prog tb Tryz.f54 = some ir54 := by kernel_rfl
theorem comp55 : compF Tryz.prog tb Tryz.f55 = some ir55 := by kernel_rfl
theorem comp56 : compF Tryz.prog tb Tryz.f56 = some ir56 := by kernel_rfl
theorem comp60 : compF Tryz.prog tb Tryz.f60 = some ir60 := by kernel_rfl
theorem comp70 : compF Tryz.prog tb Tryz.f70 = some ir70 := by kernel_rfl
theorem comp71 : compF Tryz.prog tb Tryz.f71 = some ir71 := by kernel_rfl
theorem comp72 : compF Tryz.prog tb Tryz.f72 = some ir72 := by kernel_rfl
theorem comp73 : compF Tryz.prog tb Tryz.f73 = some ir73 := by kernel_rfl
theorem comp74 : compF Tryz.prog tb Tryz.f74 = some ir74 := by kernel_rfl
theorem comp75 : compF Tryz.prog tb Tryz.f75 = some ir75 := by kernel_rfl
theorem comp76 : compF Tryz.prog tb Tryz.f76 = some ir76 := by kernel_rfl
theorem comp77 : compF Tryz.prog tb Tryz.f77 = some ir77 := by kernel_rfl
theorem comp78 : compF Tryz.prog tb Tryz.f78 = some ir78 := by kernel_rfl
theorem comp79 : compF Tryz.prog tb Tryz.f79 = some ir79 := by kernel_rfl
theorem comp80 : compF Tryz.prog tb Tryz.f80 = some ir80 := by kernel_rfl
theorem comp91 : compF Tryz.prog tb Tryz.f91 = some ir91 := by kernel_rfl
theorem comp92 : compF Tryz.prog tb Tryz.f92 = some ir92 := by kernel_rfl
theorem comp93 : compF Tryz.prog tb Tryz.f93 = some ir93 := by kernel_rfl
theorem comp94 : compF Tryz.prog tb Tryz.f94 = some ir94 := by kernel_rfl
theorem comp95 : compF Tryz.prog tb Tryz.f95 = some ir95 := by kernel_rfl
theorem comp96 : compF Tryz.prog tb Tryz.f96 = some ir96 := by kernel_rfl
theorem comp97 : compF Tryz.prog tb Tryz.f97 = some ir97 := by kernel_rfl
theorem comp98 : compF Tryz.prog tb Tryz.f98 = some ir98 := by kernel_rfl
theorem comp99 : compF Tryz.prog tb Tryz.f99 = some ir99 := by kernel_rfl
theorem comp100 : compF Tryz.prog tb Tryz.f100 = some ir100 := by kernel_rfl
theorem comp108 : compF Tryz.prog tb Tryz.f108 = some ir108 := by kernel_rfl
theorem comp109 : compF Tryz.prog tb Tryz.f109 = some ir109 := by kernel_rfl
theorem comp110 : compF Tryz.prog tb Tryz.f110 = some ir110 := by kernel_rfl
theorem comp111 : compF Tryz.prog tb Tryz.f111 = some ir111 := by kernel_rfl
theorem comp112 : compF Tryz.prog tb Tryz.f112 = some ir112 := by kernel_rfl
theorem comp113 : compF Tryz.prog tb Tryz.f113 = some ir113 := by kernel_rfl
theorem comp114 : compF Tryz.prog tb Tryz.f114 = some ir114 := by kernel_rfl
theorem comp115 : compF Tryz.prog tb Tryz.f115 = some ir115 := by kernel_rfl
theorem comp116 : compF Tryz.prog tb Tryz.f116 = some ir116 := by kernel_rfl
theorem comp117 : compF Tryz.prog tb Tryz.f117 = some ir117 := by kernel_rfl
theorem comp118 : compF Tryz.prog tb Tryz.f118 = some ir118 := by kernel_rfl
theorem comp119 : compF Tryz.prog tb Tryz.f119 = some ir119 := by kernel_rfl
theorem comp120 : compF Tryz.prog tb Tryz.f120 = some ir120 := by kernel_rfl
theorem comp124 : compF Tryz.prog tb Tryz.f124 = some ir124 := by kernel_rfl
theorem comp125 : compF Tryz.prog tb Tryz.f125 = some ir125 := by kernel_rfl
theorem comp126 : compF Tryz.prog tb Tryz.f126 = some ir126 := by kernel_rfl
theorem comps : ∀ p, p ∈ irs → ∃ fn, Tryz.prog.funcs[p.1]? = some fn ∧ compF Tryz.prog tb fn = some p.2 := by
  intro p hp
  unfold irs at hp
  simp only [List.mem_cons, List.not_mem_nil, or_false] at hp
  rcases hp with rfl | rfl | rfl | rfl | rfl | rfl | rfl | rfl | rfl | rfl | rfl | rfl | rfl | rfl | rfl | rfl | rfl | rfl | rfl | rfl | rfl | rfl | rfl | rfl | rfl | rfl | rfl | rfl | rfl | rfl | rfl | rfl | rfl | rfl | rfl | rfl | rfl | rfl | rfl | rfl | rfl | rfl | rfl | rfl | rfl | rfl | rfl | rfl | rfl | rfl | rfl | rfl | rfl | rfl | rfl | rfl | rfl | rfl | rfl | rfl | rfl | rfl | rfl | rfl | rfl | rfl | rfl | rfl | rfl | rfl | rfl | rfl | rfl | rfl | rfl | rfl | rfl | rfl | rfl | rfl | rfl | rfl | rfl
  · exact ⟨_, Tryz.func3, comp3⟩
  · exact ⟨_, Tryz.func4, comp4⟩
  · exact ⟨_, Tryz.func5, comp5⟩
  · exact ⟨_, Tryz.func6, comp6⟩
  · exact ⟨_, Tryz.func7, comp7⟩
  · exact ⟨_, Tryz.func8, comp8⟩
  · exact ⟨_, Tryz.func9, comp9⟩
  · exact ⟨_, Tryz.func10, comp10⟩
  · exact ⟨_, Tryz.func11, comp11⟩
  · exact ⟨_, Tryz.func12, comp12⟩
  · exact ⟨_, Tryz.func13, comp13⟩
  · exact ⟨_, Tryz.func14, comp14⟩
  · exact ⟨_, Tryz.func15, comp15⟩
  · exact ⟨_, Tryz.func16, comp16⟩
  · exact ⟨_, Tryz.func17, comp17⟩
  · exact ⟨_, Tryz.func18, comp18⟩
  · exact ⟨_, Tryz.func19, comp19⟩
  · exact ⟨_, Tryz.func20, comp20⟩
  · exact ⟨_, Tryz.func21, comp21⟩
  · exact ⟨_, Tryz.func22, comp22⟩
  · exact ⟨_, Tryz.func23, comp23⟩
  · exact ⟨_, Tryz.func24, comp24⟩
  · exact ⟨_, Tryz.func25, comp25⟩
  · exact ⟨_, Tryz.func26, comp26⟩
  · exact ⟨_, Tryz.func27, comp27⟩
  · exact ⟨_, Tryz.func28, comp28⟩
  · exact ⟨_, Tryz.func30, comp30⟩
  · exact ⟨_, Tryz.func31, comp31⟩
  · exact ⟨_, Tryz.func34, comp34⟩
  · exact ⟨_, Tryz.func35, comp35⟩
  · exact ⟨_, Tryz.func36, comp36⟩
  · exact ⟨_, Tryz.func37, comp37⟩
  · exact ⟨_, Tryz.func38, comp38⟩
  · exact ⟨_, Tryz.func39, comp39⟩
  · exact ⟨_, Tryz.func40, comp40⟩
  · exact ⟨_, Tryz.func41, comp41⟩
  · exact ⟨_, Tryz.func45, comp45⟩
  · exact ⟨_, Tryz.func49, comp49⟩
  · exact ⟨_, Tryz.func50, comp50⟩
  · exact ⟨_, Tryz.func51, comp51⟩
  · exact ⟨_, Tryz.func52, comp52⟩
  · exact ⟨_, Tryz.func53, comp53⟩
  · exact ⟨_, Tryz.func54, comp54⟩
  · exact ⟨_, Tryz.func55, comp55⟩
  · exact ⟨_, Tryz.func56, comp56⟩
  · exact ⟨_, Tryz.func60, comp60⟩
  · exact ⟨_, Tryz.func70, comp70⟩
  · exact ⟨_, Tryz.func71, comp71⟩
  · exact ⟨_, Tryz.func72, comp72⟩
  · exact ⟨_, Tryz.func73, comp73⟩
  · exact ⟨_, Tryz.func74, comp74⟩
  · exact ⟨_, Tryz.func75, comp75⟩
  · exact ⟨_, Tryz.func76, comp76⟩
  · exact ⟨_, Tryz.func77, comp77⟩
  · exact ⟨_, Tryz.func78, comp78⟩
  · exact ⟨_, Tryz.func79, comp79⟩
  · exact ⟨_, Tryz.func80, comp80⟩
  · exact ⟨_, Tryz.func91, comp91⟩
  · exact ⟨_, Tryz.func92, comp92⟩
  · exact ⟨_, Tryz.func93, comp93⟩
  · exact ⟨_, Tryz.func94, comp94⟩
  · exact ⟨_, Tryz.func95, comp95⟩
  · exact ⟨_, Tryz.func96, comp96⟩
  · exact ⟨_, Tryz.func97, comp97⟩
  · exact ⟨_, Tryz.func98, comp98⟩
  · exact ⟨_, Tryz.func99, comp99⟩
  · exact ⟨_, Tryz.func100, comp100⟩
  · exact ⟨_, Tryz.func108, comp108⟩
  · exact ⟨_, Tryz.func109, comp109⟩
  · exact ⟨_, Tryz.func110, comp110⟩
  · exact ⟨_, Tryz.func111, comp111⟩
  · exact ⟨_, Tryz.func112, comp112⟩
  · exact ⟨_, Tryz.func113, comp113⟩
  · exact ⟨_, Tryz.func114, comp114⟩
  · exact ⟨_, Tryz.func115, comp115⟩
  · exact ⟨_, Tryz.func116, comp116⟩
  · exact ⟨_, Tryz.func117, comp117⟩
  · exact ⟨_, Tryz.func118, comp118⟩
  · exact ⟨_, Tryz.func119, comp119⟩
  · exact ⟨_, Tryz.func120, comp120⟩
  · exact ⟨_, Tryz.func124, comp124⟩
  · exact ⟨_, Tryz.func125, comp125⟩
  · exact ⟨_, Tryz.func126, comp126⟩
end Go.Proofs.YtienhfkjhdbnbaaGreatDoor
