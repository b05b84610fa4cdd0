/- The forms are those of the program's functions. -/
import Derived.Test.YtbkphlhmbllbiaaDoorIrA
import Derived.Test.YtbkphlhmbllbiaaDoorProg
import Derived.KernelRfl
set_option maxRecDepth 10000
namespace Go.Proofs.YtbkphlhmbllbiaaDoor
open Go.Pi
theorem comp3 : compF Tryd.prog tb Tryd.f3 = some ir3 := by kernel_rfl
theorem comp4 : compF Tryd.prog tb Tryd.f4 = some ir4 := by kernel_rfl
theorem comp5 : compF Tryd.prog tb Tryd.f5 = some ir5 := by kernel_rfl
theorem comp6 : compF Tryd.prog tb Tryd.f6 = some ir6 := by kernel_rfl
theorem comp7 : compF Tryd.prog tb Tryd.f7 = some ir7 := by kernel_rfl
theorem comp8 : compF Tryd.prog tb Tryd.f8 = some ir8 := by kernel_rfl
theorem comp10 : compF Tryd.prog tb Tryd.f10 = some ir10 := by kernel_rfl
theorem comp11 : compF Tryd.prog tb Tryd.f11 = some ir11 := by kernel_rfl
theorem comp12 : compF Tryd.prog tb Tryd.f12 = some ir12 := by kernel_rfl
theorem comp13 : compF Tryd.prog tb Tryd.f13 = some ir13 := by kernel_rfl
theorem comp14 : compF Tryd.prog tb Tryd.f14 = some ir14 := by kernel_rfl
theorem comp15 : compF Tryd.prog tb Tryd.f15 = some ir15 := by kernel_rfl
theorem comp16 : compF Tryd.prog tb Tryd.f16 = some ir16 := by kernel_rfl
theorem comp17 : compF Tryd.prog tb Tryd.f17 = some ir17 := by kernel_rfl
theorem comp18 : compF Tryd.prog tb Tryd.f18 = some ir18 := by kernel_rfl
theorem comp19 : compF Tryd.prog tb Tryd.f19 = some ir19 := by kernel_rfl
theorem comp20 : compF Tryd.prog tb Tryd.f20 = some ir20 := by kernel_rfl
theorem comp21 : compF Tryd.prog tb Tryd.f21 = some ir21 := by kernel_rfl
theorem comp22 : compF Tryd.prog tb Tryd.f22 = some ir22 := by kernel_rfl
theorem comp23 : compF Tryd.prog tb Tryd.f23 = some ir23 := by kernel_rfl
theorem comp24 : compF Tryd.prog tb Tryd.f24 = some ir24 := by kernel_rfl
theorem comp25 : compF Tryd.prog tb Tryd.f25 = some ir25 := by kernel_rfl
theorem comp28 : compF Tryd.prog tb Tryd.f28 = some ir28 := by kernel_rfl
theorem comp29 : compF Tryd.prog tb Tryd.f29 = some ir29 := by kernel_rfl
theorem comp30 : compF Tryd.prog tb Tryd.f30 = some ir30 := by kernel_rfl
theorem comp31 : compF Tryd.prog tb Tryd.f31 = some ir31 := by kernel_rfl
theorem comp32 : compF Tryd.prog tb Tryd.f32 = some ir32 := by kernel_rfl
theorem comp33 : compF Tryd.prog tb Tryd.f33 = some ir33 := by kernel_rfl
theorem comp34 : compF Tryd.prog tb Tryd.f34 = some ir34 := by kernel_rfl
theorem comp35 : compF Tryd.prog tb Tryd.f35 = some ir35 := by kernel_rfl
theorem comp36 : compF Tryd.prog tb Tryd.f36 = some ir36 := by kernel_rfl
theorem comp37 : compF Tryd.prog tb Tryd.f37 = some ir37 := by kernel_rfl
theorem comp38 : compF Tryd.prog tb Tryd.f38 = some ir38 := by kernel_rfl
theorem comp39 : compF Tryd.prog tb Tryd.f39 = some ir39 := by kernel_rfl
theorem comp40 : compF Tryd.prog tb Tryd.f40 = some ir40 := by kernel_rfl
theorem comp41 : compF Tryd.prog tb Tryd.f41 = some ir41 := by kernel_rfl
theorem comp42 : compF Tryd.prog tb Tryd.f42 = some ir42 := by kernel_rfl
theorem comp43 : compF Tryd.prog tb Tryd.f43 = some ir43 := by kernel_rfl
theorem comp44 : compF Tryd.prog tb Tryd.f44 = some ir44 := by kernel_rfl
theorem comp45 : compF Tryd.prog tb Tryd.f45 = some ir45 := by kernel_rfl
theorem comp46 : compF Tryd.prog tb Tryd.f46 = some ir46 := by kernel_rfl
theorem comp47 : compF Tryd.prog tb Tryd.f47 = some ir47 := by kernel_rfl
theorem comp48 : compF Tryd.prog tb Tryd.f48 = some ir48 := by kernel_rfl
theorem comp49 : compF Tryd.prog tb Tryd.f49 = some ir49 := by kernel_rfl
theorem comp54 : compF Tryd.prog tb Tryd.f54 = some ir54 := by kernel_rfl
theorem comp55 : compF Tryd.prog tb Tryd.f55 = some ir55 := by kernel_rfl
theorem comp56 : compF Tryd.prog tb Tryd.f56 = some ir56 := by kernel_rfl
theorem comp57 : compF Tryd.prog tb Tryd.f57 = some ir57 := by kernel_rfl
theorem comp58 : compF Tryd.prog tb Tryd.f58 = some ir58 := by kernel_rfl
theorem comp59 : compF Tryd.prog tb Tryd.f59 = some ir59 := by kernel_rfl
theorem comp60 : compF Tryd.prog tb Tryd.f60 = some ir60 := by kernel_rfl
theorem comp61 : compF Tryd.prog tb Tryd.f61 = some ir61 := by kernel_rfl
theorem comp62 : compF Tryd.prog tb Tryd.f62 = some ir62 := by kernel_rfl
theorem comp63 : compF Tryd.prog tb Tryd.f63 = some ir63 := by kernel_rfl
theorem comp64 : compF Tryd.prog tb Tryd.f64 = some ir64 := by kernel_rfl
theorem comp65 : compF Tryd.prog tb Tryd.f65 = some ir65 := by kernel_rfl
theorem comp66 : compF Tryd.prog tb Tryd.f66 = some ir66 := by kernel_rfl
theorem comp67 : compF Tryd.prog tb Tryd.f67 = some ir67 := by kernel_rfl
theorem comp68 : compF Tryd.prog tb Tryd.f68 = some ir68 := by kernel_rfl
theorem comp69 : compF Tryd.prog tb Tryd.f69 = some ir69 := by kernel_rfl
theorem comp78 : compF Tryd.prog tb Tryd.f78 = some ir78 := by kernel_rfl
theorem comp79 : compF Tryd.prog tb Tryd.f79 = some ir79 := by kernel_rfl
theorem comp80 : compF Tryd.prog tb Tryd.f80 = some ir80 := by kernel_rfl
theorem comp81 : compF Tryd.prog tb Tryd.f81 = some ir81 := by kernel_rfl
theorem comp82 : compF Tryd.prog tb Tryd.f82 = some ir82 := by kernel_rfl
theorem comp83 : compF Tryd.prog tb Tryd.f83 = some ir83 := by kernel_rfl
theorem comp84 : compF Tryd.prog tb Tryd.f84 = some ir84 := by kernel_rfl
theorem comp85 : compF Tryd.prog tb Tryd.f85 = some ir85 := by kernel_rfl
theorem comp90 : compF Tryd.prog tb Tryd.f90 = some ir90 := by kernel_rfl
theorem comp91 : compF Tryd.prog tb Tryd.f91 = some ir91 := by kernel_rfl
theorem comp92 : compF Tryd.prog tb Tryd.f92 = some ir92 := by kernel_rfl
theorem comp93 : compF Tryd.prog tb Tryd.f93 = some ir93 := by kernel_rfl
theorem comp94 : compF Tryd.prog tb Tryd.f94 = some ir94 := by kernel_rfl
theorem comp95 : compF Tryd.prog tb Tryd.f95 = some ir95 := by kernel_rfl
theorem comp96 : compF Tryd.prog tb Tryd.f96 = some ir96 := by kernel_rfl
theorem comp97 : compF Tryd.prog tb Tryd.f97 = some ir97 := by kernel_rfl
theorem comp98 : compF Tryd.prog tb Tryd.f98 = some ir98 := by kernel_rfl
theorem comp99 : compF Tryd.prog tb Tryd.f99 = some ir99 := by kernel_rfl
theorem comp100 : compF Tryd.prog tb Tryd.f100 = some ir100 := by kernel_rfl
theorem comp101 : compF Tryd.prog tb Tryd.f101 = some ir101 := by kernel_rfl
theorem comp102 : compF Tryd.prog tb Tryd.f102 = some ir102 := by kernel_rfl
theorem comp112 : compF Tryd.prog tb Tryd.f112 = some ir112 := by kernel_rfl
theorem comp113 : compF Tryd.prog tb Tryd.f113 = some ir113 := by kernel_rfl
theorem comp114 : compF Tryd.prog tb Tryd.f114 = some ir114 := by kernel_rfl
theorem comp115 : compF Tryd.prog tb Tryd.f115 = some ir115 := by kernel_rfl
theorem comp116 : compF Tryd.prog tb Tryd.f116 = some ir116 := by kernel_rfl
theorem comp117 : compF Tryd.prog tb Tryd.f117 = some ir117 := by kernel_rfl
theorem comps : ∀ p, p ∈ irs → ∃ fn, Tryd.prog.funcs[p.1]? = some fn ∧ compF Tryd.prog tb fn = some p.2 := by
  intro p hp
  unfold irs at hp
  simp only [List.mem_cons, List.not_mem_nil, or_false] at hp
  rcases hp with rfl | rfl | rfl | rfl | rfl | rfl | rfl | rfl | rfl | rfl | rfl | rfl | rfl | rfl | rfl | rfl | rfl | rfl | rfl | rfl | rfl | rfl | rfl | rfl | rfl | rfl | rfl | rfl | rfl | rfl | rfl | rfl | rfl | rfl | rfl | rfl | rfl | rfl | rfl | rfl | rfl | rfl | rfl | rfl | rfl | rfl | rfl | rfl | rfl | rfl | rfl | rfl | rfl | rfl | rfl | rfl | rfl | rfl | rfl | rfl | rfl | rfl | rfl | rfl | rfl | rfl | rfl | rfl | rfl | rfl | rfl | rfl | rfl | rfl | rfl | rfl | rfl | rfl | rfl | rfl | rfl | rfl | rfl | rfl | rfl | rfl | rfl
  · exact ⟨_, Tryd.func3, comp3⟩
  · exact ⟨_, Tryd.func4, comp4⟩
  · exact ⟨_, Tryd.func5, comp5⟩
  · exact ⟨_, Tryd.func6, comp6⟩
  · exact ⟨_, Tryd.func7, comp7⟩
  · exact ⟨_, Tryd.func8, comp8⟩
  · exact ⟨_, Tryd.func10, comp10⟩
  · exact ⟨_, Tryd.func11, comp11⟩
  · exact ⟨_, Tryd.func12, comp12⟩
  · exact ⟨_, Tryd.func13, comp13⟩
  · exact ⟨_, Tryd.func14, comp14⟩
  · exact ⟨_, Tryd.func15, comp15⟩
  · exact ⟨_, Tryd.func16, comp16⟩
  · exact ⟨_, Tryd.func17, comp17⟩
  · exact ⟨_, Tryd.func18, comp18⟩
  · exact ⟨_, Tryd.func19, comp19⟩
  · exact ⟨_, Tryd.func20, comp20⟩
  · exact ⟨_, Tryd.func21, comp21⟩
  · exact ⟨_, Tryd.func22, comp22⟩
  · exact ⟨_, Tryd.func23, comp23⟩
  · exact ⟨_, Tryd.func24, comp24⟩
  · exact ⟨_, Tryd.func25, comp25⟩
  · exact ⟨_, Tryd.func28, comp28⟩
  · exact ⟨_, Tryd.func29, comp29⟩
  · exact ⟨_, Tryd.func30, comp30⟩
  · exact ⟨_, Tryd.func31, comp31⟩
  · exact ⟨_, Tryd.func32, comp32⟩
  · exact ⟨_, Tryd.func33, comp33⟩
  · exact ⟨_, Tryd.func34, comp34⟩
  · exact ⟨_, Tryd.func35, comp35⟩
  · exact ⟨_, Tryd.func36, comp36⟩
  · exact ⟨_, Tryd.func37, comp37⟩
  · exact ⟨_, Tryd.func38, comp38⟩
  · exact ⟨_, Tryd.func39, comp39⟩
  · exact ⟨_, Tryd.func40, comp40⟩
  · exact ⟨_, Tryd.func41, comp41⟩
  · exact ⟨_, Tryd.func42, comp42⟩
  · exact ⟨_, Tryd.func43, comp43⟩
  · exact ⟨_, Tryd.func44, comp44⟩
  · exact ⟨_, Tryd.func45, comp45⟩
  · exact ⟨_, Tryd.func46, comp46⟩
  · exact ⟨_, Tryd.func47, comp47⟩
  · exact ⟨_, Tryd.func48, comp48⟩
  · exact ⟨_, Tryd.func49, comp49⟩
  · exact ⟨_, Tryd.func54, comp54⟩
  · exact ⟨_, Tryd.func55, comp55⟩
  · exact ⟨_, Tryd.func56, comp56⟩
  · exact ⟨_, Tryd.func57, comp57⟩
  · exact ⟨_, Tryd.func58, comp58⟩
  · exact ⟨_, Tryd.func59, comp59⟩
  · exact ⟨_, Tryd.func60, comp60⟩
  · exact ⟨_, Tryd.func61, comp61⟩
  · exact ⟨_, Tryd.func62, comp62⟩
  · exact ⟨_, Tryd.func63, comp63⟩
  · exact ⟨_, Tryd.func64, comp64⟩
  · exact ⟨_, Tryd.func65, comp65⟩
  · exact ⟨_, Tryd.func66, comp66⟩
  · exact ⟨_, Tryd.func67, comp67⟩
  · exact ⟨_, Tryd.func68, comp68⟩
  · exact ⟨_, Tryd.func69, comp69⟩
  · exact ⟨_, Tryd.func78, comp78⟩
  · exact ⟨_, Tryd.func79, comp79⟩
  · exact ⟨_, Tryd.func80, comp80⟩
  · exact ⟨_, Tryd.func81, comp81⟩
  · exact ⟨_, Tryd.func82, comp82⟩
  · exact ⟨_, Tryd.func83, comp83⟩
  · exact ⟨_, Tryd.func84, comp84⟩
  · exact ⟨_, Tryd.func85, comp85⟩
  · exact ⟨_, Tryd.func90, comp90⟩
  · exact ⟨_, Tryd.func91, comp91⟩
  · exact ⟨_, Tryd.func92, comp92⟩
  · exact ⟨_, Tryd.func93, comp93⟩
  · exact ⟨_, Tryd.func94, comp94⟩
  · exact ⟨_, Tryd.func95, comp95⟩
  · exact ⟨_, Tryd.func96, comp96⟩
  · exact ⟨_, Tryd.func97, comp97⟩
  · exact ⟨_, Tryd.func98, comp98⟩
  · exact ⟨_, Tryd.func99, comp99⟩
  · exact ⟨_, Tryd.func100, comp100⟩
  · exact ⟨_, Tryd.func101, comp101⟩
  · exact ⟨_, Tryd.func102, comp102⟩
  · exact ⟨_, Tryd.func112, comp112⟩
  · exact ⟨_, Tryd.func113, comp113⟩
  · exact ⟨_, Tryd.func114, comp114⟩
  · exact ⟨_, Tryd.func115, comp115⟩
  · exact ⟨_, Tryd.func116, comp116⟩
  · exact ⟨_, Tryd.func117, comp117⟩
end Go.Proofs.YtbkphlhmbllbiaaDoor
