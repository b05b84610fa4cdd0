/- The forms are those of the program's functions. -/
import Derived.Test.YtcbgiabippcpaaaGreatDoorIrA
import Derived.Test.YtcbgiabippcpaaaGreatDoorProg
import Derived.KernelRfl
set_option maxRecDepth 10000
namespace Go.Proofs.YtcbgiabippcpaaaGreatDoor
open Go.Pi
theorem comp5 : compF Tryz.prog tb Tryz.f5 = some ir5 := by kernel_rfl
theorem comp8 : compF Tryz.prog tb Tryz.f8 = some ir8 := by kernel_rfl
theorem comp9 : compF Tryz.prog tb Tryz.f9 = some ir9 := by kernel_rfl
theorem comp12 : compF Tryz.prog tb Tryz.f12 = some ir12 := by kernel_rfl
theorem comp13 : compF Tryz.prog tb Tryz.f13 = some ir13 := by kernel_rfl
theorem comp14 : compF Tryz.prog tb Tryz.f14 = some ir14 := by kernel_rfl
theorem comp18 : compF Tryz.prog tb Tryz.f18 = some ir18 := by kernel_rfl
theorem comp19 : compF Tryz.prog tb Tryz.f19 = some ir19 := by kernel_rfl
theorem comp20 : compF Tryz.prog tb Tryz.f20 = some ir20 := by kernel_rfl
theorem comp21 : compF Tryz.prog tb Tryz.f21 = some ir21 := by kernel_rfl
theorem comp22 : compF Tryz.prog tb Tryz.f22 = some ir22 := by kernel_rfl
theorem comp23 : compF Tryz.prog tb Tryz.f23 = some ir23 := by kernel_rfl
theorem comp24 : compF Tryz.prog tb Tryz.f24 = some ir24 := by kernel_rfl
theorem comp32 : compF Tryz.prog tb Tryz.f32 = some ir32 := by kernel_rfl
theorem comp33 : compF Tryz.prog tb Tryz.f33 = some ir33 := by kernel_rfl
theorem comp34 : compF Tryz.prog tb Tryz.f34 = some ir34 := by kernel_rfl
theorem comp35 : compF Tryz.prog tb Tryz.f35 = some ir35 := by kernel_rfl
theorem comp36 : compF Tryz.prog tb Tryz.f36 = some ir36 := by kernel_rfl
theorem comp37 : compF Tryz.prog tb Tryz.f37 = some ir37 := by kernel_rfl
theorem comp38 : compF Tryz.prog tb Tryz.f38 = some ir38 := by kernel_rfl
theorem comp42 : compF Tryz.prog tb Tryz.f42 = some ir42 := by kernel_rfl
theorem comp44 : compF Tryz.prog tb Tryz.f44 = some ir44 := by kernel_rfl
theorem comp53 : compF Tryz.prog tb Tryz.f53 = some ir53 := by kernel_rfl
theorem comp54 : compF Tryz.prog tb Tryz.f54 = some ir54 := by kernel_rfl
theorem comp55 : compF Tryz.prog tb Tryz.f55 = some ir55 := by kernel_rfl
theorem comp56 : compF Tryz.prog tb Tryz.f56 = some ir56 := by kernel_rfl
theorem comp57 : compF Tryz.prog tb Tryz.f57 = some ir57 := by kernel_rfl
theorem comp58 : compF Tryz.prog tb Tryz.f58 = some ir58 := by kernel_rfl
theorem comp59 : compF Tryz.prog tb Tryz.f59 = some ir59 := by kernel_rfl
theorem comp60 : compF Tryz.prog tb Tryz.f60 = some ir60 := by kernel_rfl
theorem comp61 : compF Tryz.prog tb Tryz.f61 = some ir61 := by kernel_rfl
theorem comp65 : compF Tryz.prog tb Tryz.f65 = some ir65 := by kernel_rfl
theorem comp66 : compF Tryz.prog tb Tryz.f66 = some ir66 := by kernel_rfl
theorem comp67 : compF Tryz.prog tb Tryz.f67 = some ir67 := by kernel_rfl
theorem comp68 : compF Tryz.prog tb Tryz.f68 = some ir68 := by kernel_rfl
theorem comp69 : compF Tryz.prog tb Tryz.f69 = some ir69 := by kernel_rfl
theorem comp70 : compF Tryz.prog tb Tryz.f70 = some ir70 := by kernel_rfl
theorem comp71 : compF Tryz.prog tb Tryz.f71 = some ir71 := by kernel_rfl
theorem comp72 : compF Tryz.prog tb Tryz.f72 = some ir72 := by kernel_rfl
theorem comp73 : compF Tryz.prog tb Tryz.f73 = some ir73 := by kernel_rfl
theorem comp74 : compF Tryz.prog tb Tryz.f74 = some ir74 := by kernel_rfl
theorem comp75 : compF Tryz.prog tb Tryz.f75 = some ir75 := by kernel_rfl
theorem comp76 : compF Tryz.prog tb Tryz.f76 = some ir76 := by kernel_rfl
theorem comp77 : compF Tryz.prog tb Tryz.f77 = some ir77 := by kernel_rfl
theorem comp78 : compF Tryz.prog tb Tryz.f78 = some ir78 := by kernel_rfl
theorem comp86 : compF Tryz.prog tb Tryz.f86 = some ir86 := by kernel_rfl
theorem comp87 : compF Tryz.prog tb Tryz.f87 = some ir87 := by kernel_rfl
theorem comp88 : compF Tryz.prog tb Tryz.f88 = some ir88 := by kernel_rfl
theorem comp89 : compF Tryz.prog tb Tryz.f89 = some ir89 := by kernel_rfl
theorem comp90 : compF Tryz.prog tb Tryz.f90 = some ir90 := by kernel_rfl
theorem comp91 : compF Tryz.prog tb Tryz.f91 = some ir91 := by kernel_rfl
theorem comp92 : compF Tryz.prog tb Tryz.f92 = some ir92 := by kernel_rfl
theorem comp93 : compF Tryz.prog tb Tryz.f93 = some ir93 := by kernel_rfl
theorem comp94 : compF Tryz.prog tb Tryz.f94 = some ir94 := by kernel_rfl
theorem comp95 : compF Tryz.prog tb Tryz.f95 = some ir95 := by kernel_rfl
theorem comp96 : compF Tryz.prog tb Tryz.f96 = some ir96 := by kernel_rfl
theorem comp97 : compF Tryz.prog tb Tryz.f97 = some ir97 := by kernel_rfl
theorem comp98 : compF Tryz.prog tb Tryz.f98 = some ir98 := by kernel_rfl
theorem comp99 : compF Tryz.prog tb Tryz.f99 = some ir99 := by kernel_rfl
theorem comp100 : compF Tryz.prog tb Tryz.f100 = some ir100 := by kernel_rfl
theorem comp101 : compF Tryz.prog tb Tryz.f101 = some ir101 := by kernel_rfl
theorem comp102 : compF Tryz.prog tb Tryz.f102 = some ir102 := by kernel_rfl
theorem comp103 : compF Tryz.prog tb Tryz.f103 = some ir103 := by kernel_rfl
theorem comp104 : compF Tryz.prog tb Tryz.f104 = some ir104 := by kernel_rfl
theorem comp105 : compF Tryz.prog tb Tryz.f105 = some ir105 := by kernel_rfl
theorem comp111 : compF Tryz.prog tb Tryz.f111 = some ir111 := by kernel_rfl
theorem comp112 : compF Tryz.prog tb Tryz.f112 = some ir112 := by kernel_rfl
theorem comp115 : compF Tryz.prog tb Tryz.f115 = some ir115 := by kernel_rfl
theorem comp116 : compF Tryz.prog tb Tryz.f116 = some ir116 := by kernel_rfl
theorem comp117 : compF Tryz.prog tb Tryz.f117 = some ir117 := by kernel_rfl
theorem comp118 : compF Tryz.prog tb Tryz.f118 = some ir118 := by kernel_rfl
theorem comp119 : compF Tryz.prog tb Tryz.f119 = some ir119 := by kernel_rfl
theorem comp121 : compF Tryz.prog tb Tryz.f121 = some ir121 := by kernel_rfl
theorem comp125 : compF Tryz.prog tb Tryz.f125 = some ir125 := by kernel_rfl
theorem comp126 : compF Tryz.prog tb Tryz.f126 = some ir126 := by kernel_rfl
theorem comp127 : compF Tryz.prog tb Tryz.f127 = some ir127 := by kernel_rfl
theorem comp128 : compF Tryz.prog tb Tryz.f128 = some ir128 := by kernel_rfl
theorem comp129 : compF Tryz.prog tb Tryz.f129 = some ir129 := by kernel_rfl
theorem comp130 : compF Tryz.prog tb Tryz.f130 = some ir130 := by kernel_rfl
theorem comp131 : compF Tryz.prog tb Tryz.f131 = some ir131 := by kernel_rfl
theorem comp141 : compF Tryz.prog tb Tryz.f141 = some ir141 := by kernel_rfl
theorem comp142 : compF Tryz.prog tb Tryz.f142 = some ir142 := by kernel_rfl
theorem comp143 : compF Tryz.prog tb Tryz.f143 = some ir143 := by kernel_rfl
theorem comps : ∀ p, p ∈ irs → ∃ fn, Tryz.prog.funcs[p.1]? = some fn ∧ compF Tryz.prog tb fn = some p.2 := by
  intro p hp
  unfold irs at hp
  simp only [List.mem_cons, List.not_mem_nil, or_false] at hp
  rcases hp with rfl | rfl | rfl | rfl | rfl | rfl | rfl | rfl | rfl | rfl | rfl | rfl | rfl | rfl | rfl | rfl | rfl | rfl | rfl | rfl | rfl | rfl | rfl | rfl | rfl | rfl | rfl | rfl | rfl | rfl | rfl | rfl | rfl | rfl | rfl | rfl | rfl | rfl | rfl | rfl | rfl | rfl | rfl | rfl | rfl | rfl | rfl | rfl | rfl | rfl | rfl | rfl | rfl | rfl | rfl | rfl | rfl | rfl | rfl | rfl | rfl | rfl | rfl | rfl | rfl | rfl | rfl | rfl | rfl | rfl | rfl | rfl | rfl | rfl | rfl | rfl | rfl | rfl | rfl | rfl | rfl | rfl | rfl
  · exact ⟨_, Tryz.func5, comp5⟩
  · exact ⟨_, Tryz.func8, comp8⟩
  · exact ⟨_, Tryz.func9, comp9⟩
  · exact ⟨_, Tryz.func12, comp12⟩
  · exact ⟨_, Tryz.func13, comp13⟩
  · exact ⟨_, Tryz.func14, comp14⟩
  · exact ⟨_, Tryz.func18, comp18⟩
  · exact ⟨_, Tryz.func19, comp19⟩
  · exact ⟨_, Tryz.func20, comp20⟩
  · exact ⟨_, Tryz.func21, comp21⟩
  · exact ⟨_, Tryz.func22, comp22⟩
  · exact ⟨_, Tryz.func23, comp23⟩
  · exact ⟨_, Tryz.func24, comp24⟩
  · exact ⟨_, Tryz.func32, comp32⟩
  · exact ⟨_, Tryz.func33, comp33⟩
  · exact ⟨_, Tryz.func34, comp34⟩
  · exact ⟨_, Tryz.func35, comp35⟩
  · exact ⟨_, Tryz.func36, comp36⟩
  · exact ⟨_, Tryz.func37, comp37⟩
  · exact ⟨_, Tryz.func38, comp38⟩
  · exact ⟨_, Tryz.func42, comp42⟩
  · exact ⟨_, Tryz.func44, comp44⟩
  · exact ⟨_, Tryz.func53, comp53⟩
  · exact ⟨_, Tryz.func54, comp54⟩
  · exact ⟨_, Tryz.func55, comp55⟩
  · exact ⟨_, Tryz.func56, comp56⟩
  · exact ⟨_, Tryz.func57, comp57⟩
  · exact ⟨_, Tryz.func58, comp58⟩
  · exact ⟨_, Tryz.func59, comp59⟩
  · exact ⟨_, Tryz.func60, comp60⟩
  · exact ⟨_, Tryz.func61, comp61⟩
  · exact ⟨_, Tryz.func65, comp65⟩
  · exact ⟨_, Tryz.func66, comp66⟩
  · exact ⟨_, Tryz.func67, comp67⟩
  · exact ⟨_, Tryz.func68, comp68⟩
  · exact ⟨_, Tryz.func69, comp69⟩
  · exact ⟨_, Tryz.func70, comp70⟩
  · exact ⟨_, Tryz.func71, comp71⟩
  · exact ⟨_, Tryz.func72, comp72⟩
  · exact ⟨_, Tryz.func73, comp73⟩
  · exact ⟨_, Tryz.func74, comp74⟩
  · exact ⟨_, Tryz.func75, comp75⟩
  · exact ⟨_, Tryz.func76, comp76⟩
  · exact ⟨_, Tryz.func77, comp77⟩
  · exact ⟨_, Tryz.func78, comp78⟩
  · exact ⟨_, Tryz.func86, comp86⟩
  · exact ⟨_, Tryz.func87, comp87⟩
  · exact ⟨_, Tryz.func88, comp88⟩
  · exact ⟨_, Tryz.func89, comp89⟩
  · exact ⟨_, Tryz.func90, comp90⟩
  · exact ⟨_, Tryz.func91, comp91⟩
  · exact ⟨_, Tryz.func92, comp92⟩
  · exact ⟨_, Tryz.func93, comp93⟩
  · exact ⟨_, Tryz.func94, comp94⟩
  · exact ⟨_, Tryz.func95, comp95⟩
  · exact ⟨_, Tryz.func96, comp96⟩
  · exact ⟨_, Tryz.func97, comp97⟩
  · exact ⟨_, Tryz.func98, comp98⟩
  · exact ⟨_, Tryz.func99, comp99⟩
  · exact ⟨_, Tryz.func100, comp100⟩
  · exact ⟨_, Tryz.func101, comp101⟩
  · exact ⟨_, Tryz.func102, comp102⟩
  · exact ⟨_, Tryz.func103, comp103⟩
  · exact ⟨_, Tryz.func104, comp104⟩
  · exact ⟨_, Tryz.func105, comp105⟩
  · exact ⟨_, Tryz.func111, comp111⟩
  · exact ⟨_, Tryz.func112, comp112⟩
  · exact ⟨_, Tryz.func115, comp115⟩
  · exact ⟨_, Tryz.func116, comp116⟩
  · exact ⟨_, Tryz.func117, comp117⟩
  · exact ⟨_, Tryz.func118, comp118⟩
  · exact ⟨_, Tryz.func119, comp119⟩
  · exact ⟨_, Tryz.func121, comp121⟩
  · exact ⟨_, Tryz.func125, comp125⟩
  · exact ⟨_, Tryz.func126, comp126⟩
  · exact ⟨_, Tryz.func127, comp127⟩
  · exact ⟨_, Tryz.func128, comp128⟩
  · exact ⟨_, Tryz.func129, comp129⟩
  · exact ⟨_, Tryz.func130, comp130⟩
  · exact ⟨_, Tryz.func131, comp131⟩
  · exact ⟨_, Tryz.func141, comp141⟩
  · exact ⟨_, Tryz.func142, comp142⟩
  · exact ⟨_, Tryz.func143, comp143⟩
end Go.Proofs.YtcbgiabippcpaaaGreatDoor
