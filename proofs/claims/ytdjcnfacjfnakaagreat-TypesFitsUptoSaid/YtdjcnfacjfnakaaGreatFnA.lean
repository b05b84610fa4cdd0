/- The forms are those of the program's functions. -/
import Derived.Test.YtdjcnfacjfnakaaGreatIrA
import Derived.Test.YtdjcnfacjfnakaaGreatProg
import Derived.KernelRfl
set_option maxRecDepth 10000
namespace Go.Proofs.YtdjcnfacjfnakaaGreat
open Go.Pi
theorem comp3 : compF Tryz.prog tb Tryz.f3 = some ir3 := by kernel_rfl
theorem comp4 : compF Tryz.prog tb Tryz.f4 = some ir4 := by kernel_rfl
theorem comp5 : compF Tryz.prog tb Tryz.f5 = some ir5 := by kernel_rfl
theorem comp9 : compF Tryz.prog tb Tryz.f9 = some ir9 := by kernel_rfl
theorem comp10 : compF Tryz.prog tb Tryz.f10 = some ir10 := by kernel_rfl
theorem comp11 : compF Tryz.prog tb Tryz.f11 = some ir11 := by kernel_rfl
theorem comp12 : compF Tryz.prog tb Tryz.f12 = some ir12 := by kernel_rfl
theorem comp13 : compF Tryz.prog tb Tryz.f13 = some ir13 := by kernel_rfl
theorem comp14 : compF Tryz.prog tb Tryz.f14 = some ir14 := by kernel_rfl
theorem comp15 : compF Tryz.prog tb Tryz.f15 = some ir15 := by kernel_rfl
theorem comp16 : compF Tryz.prog tb Tryz.f16 = some ir16 := by kernel_rfl
theorem comp23 : compF Tryz.prog tb Tryz.f23 = some ir23 := by kernel_rfl
theorem comp25 : compF Tryz.prog tb Tryz.f25 = some ir25 := by kernel_rfl
theorem comp26 : compF Tryz.prog tb Tryz.f26 = some ir26 := by kernel_rfl
theorem comp27 : compF Tryz.prog tb Tryz.f27 = some ir27 := by kernel_rfl
theorem comp28 : compF Tryz.prog tb Tryz.f28 = some ir28 := by kernel_rfl
theorem comp29 : compF Tryz.prog tb Tryz.f29 = some ir29 := by kernel_rfl
theorem comp30 : compF Tryz.prog tb Tryz.f30 = some ir30 := by kernel_rfl
theorem comp31 : compF Tryz.prog tb Tryz.f31 = some ir31 := by kernel_rfl
theorem comp32 : compF Tryz.prog tb Tryz.f32 = some ir32 := by kernel_rfl
theorem comp33 : compF Tryz.prog tb Tryz.f33 = some ir33 := by kernel_rfl
theorem comp34 : compF Tryz.prog tb Tryz.f34 = some ir34 := by kernel_rfl
theorem comp35 : compF Tryz.prog tb Tryz.f35 = some ir35 := by kernel_rfl
theorem comp36 : compF Tryz.prog tb Tryz.f36 = some ir36 := by kernel_rfl
theorem comp37 : compF Tryz.prog tb Tryz.f37 = some ir37 := by kernel_rfl
theorem comp38 : compF Tryz.prog tb Tryz.f38 = some ir38 := by kernel_rfl
theorem comp39 : compF Tryz.prog tb Tryz.f39 = some ir39 := by kernel_rfl
theorem comp40 : compF Tryz.prog tb Tryz.f40 = some ir40 := by kernel_rfl
theorem comp41 : compF Tryz.prog tb Tryz.f41 = some ir41 := by kernel_rfl
theorem comp42 : compF Tryz.prog tb Tryz.f42 = some ir42 := by kernel_rfl
theorem comp43 : compF Tryz.prog tb Tryz.f43 = some ir43 := by kernel_rfl
theorem comp44 : compF Tryz.prog tb Tryz.f44 = some ir44 := by kernel_rfl
theorem comp45 : compF Tryz.prog tb Tryz.f45 = some ir45 := by kernel_rfl
theorem comp46 : compF Tryz.prog tb Tryz.f46 = some ir46 := by kernel_rfl
theorem comp47 : compF Tryz.prog tb Tryz.f47 = some ir47 := by kernel_rfl
theorem comp48 : compF Tryz.prog tb Tryz.f48 = some ir48 := by kernel_rfl
theorem comp55 : compF Tryz.prog tb Tryz.f55 = some ir55 := by kernel_rfl
theorem comp60 : compF Tryz.prog tb Tryz.f60 = some ir60 := by kernel_rfl
theorem comp61 : compF Tryz.prog tb Tryz.f61 = some ir61 := by kernel_rfl
theorem comp62 : compF Tryz.prog tb Tryz.f62 = some ir62 := by kernel_rfl
theorem comp63 : compF Tryz.prog tb Tryz.f63 = some ir63 := by kernel_rfl
theorem comp64 : compF Tryz.prog tb Tryz.f64 = some ir64 := by kernel_rfl
theorem comp65 : compF Tryz.prog tb Tryz.f65 = some ir65 := by kernel_rfl
theorem comp66 : compF Tryz.prog tb Tryz.f66 = some ir66 := by kernel_rfl
theorem comp67 : compF Tryz.prog tb Tryz.f67 = some ir67 := by kernel_rfl
theorem comp68 : compF Tryz.prog tb Tryz.f68 = some ir68 := by kernel_rfl
theorem comp69 : compF Tryz.prog tb Tryz.f69 = some ir69 := by kernel_rfl
theorem comp70 : compF Tryz.prog tb Tryz.f70 = some ir70 := by kernel_rfl
theorem comp71 : compF Tryz.prog tb Tryz.f71 = some ir71 := by kernel_rfl
theorem comp72 : compF Tryz.prog tb Tryz.f72 = some ir72 := by kernel_rfl
theorem comp73 : compF Tryz.prog tb Tryz.f73 = some ir73 := by kernel_rfl
theorem comp74 : compF Tryz.prog tb Tryz.f74 = some ir74 := by kernel_rfl
theorem comp75 : compF Tryz.prog tb Tryz.f75 = some ir75 := by kernel_rfl
theorem comp76 : compF Tryz.prog tb Tryz.f76 = some ir76 := by kernel_rfl
theorem comp77 : compF Tryz.prog tb Tryz.f77 = some ir77 := by kernel_rfl
theorem comp95 : compF Tryz.prog tb Tryz.f95 = some ir95 := by kernel_rfl
theorem comp96 : compF Tryz.prog tb Tryz.f96 = some ir96 := by kernel_rfl
theorem comp97 : compF Tryz.prog tb Tryz.f97 = some ir97 := by kernel_rfl
theorem comp98 : compF Tryz.prog tb Tryz.f98 = some ir98 := by kernel_rfl
theorem comp99 : compF Tryz.prog tb Tryz.f99 = some ir99 := by kernel_rfl
theorem comp100 : compF Tryz.prog tb Tryz.f100 = some ir100 := by kernel_rfl
theorem comp101 : compF Tryz.prog tb Tryz.f101 = some ir101 := by kernel_rfl
theorem comp102 : compF Tryz.prog tb Tryz.f102 = some ir102 := by kernel_rfl
theorem comp103 : compF Tryz.prog tb Tryz.f103 = some ir103 := by kernel_rfl
theorem comp104 : compF Tryz.prog tb Tryz.f104 = some ir104 := by kernel_rfl
theorem comp105 : compF Tryz.prog tb Tryz.f105 = some ir105 := by kernel_rfl
theorem comp106 : compF Tryz.prog tb Tryz.f106 = some ir106 := by kernel_rfl
theorem comp107 : compF Tryz.prog tb Tryz.f107 = some ir107 := by kernel_rfl
theorem comp108 : compF Tryz.prog tb Tryz.f108 = some ir108 := by kernel_rfl
theorem comp109 : compF Tryz.prog tb Tryz.f109 = some ir109 := by kernel_rfl
theorem comp110 : compF Tryz.prog tb Tryz.f110 = some ir110 := by kernel_rfl
theorem comp111 : compF Tryz.prog tb Tryz.f111 = some ir111 := by kernel_rfl
theorem comp112 : compF Tryz.prog tb Tryz.f112 = some ir112 := by kernel_rfl
theorem comp139 : compF Tryz.prog tb Tryz.f139 = some ir139 := by kernel_rfl
theorem comp140 : compF Tryz.prog tb Tryz.f140 = some ir140 := by kernel_rfl
theorem comp141 : compF Tryz.prog tb Tryz.f141 = some ir141 := by kernel_rfl
theorem comp142 : compF Tryz.prog tb Tryz.f142 = some ir142 := by kernel_rfl
theorem comp143 : compF Tryz.prog tb Tryz.f143 = some ir143 := by kernel_rfl
theorem comp144 : compF Tryz.prog tb Tryz.f144 = some ir144 := by kernel_rfl
theorem comp145 : compF Tryz.prog tb Tryz.f145 = some ir145 := by kernel_rfl
theorem comp146 : compF Tryz.prog tb Tryz.f146 = some ir146 := by kernel_rfl
theorem comp147 : compF Tryz.prog tb Tryz.f147 = some ir147 := by kernel_rfl
theorem comp148 : compF Tryz.prog tb Tryz.f148 = some ir148 := by kernel_rfl
theorem comp149 : compF Tryz.prog tb Tryz.f149 = some ir149 := by kernel_rfl
theorem comp150 : compF Tryz.prog tb Tryz.f150 = some ir150 := by kernel_rfl
theorem comp151 : compF Tryz.prog tb Tryz.f151 = some ir151 := by kernel_rfl
theorem comp152 : compF Tryz.prog tb Tryz.f152 = some ir152 := by kernel_rfl
theorem comp153 : compF Tryz.prog tb Tryz.f153 = some ir153 := by kernel_rfl
theorem comp154 : compF Tryz.prog tb Tryz.f154 = some ir154 := by kernel_rfl
theorem comp155 : compF Tryz.prog tb Tryz.f155 = some ir155 := by kernel_rfl
theorem comp164 : compF Tryz.prog tb Tryz.f164 = some ir164 := by kernel_rfl
theorem comp178 : compF Tryz.prog tb Tryz.f178 = some ir178 := by kernel_rfl
theorem comp179 : compF Tryz.prog tb Tryz.f179 = some ir179 := by kernel_rfl
theorem comp180 : compF Tryz.prog tb Tryz.f180 = some ir180 := by kernel_rfl
theorem comp181 : compF Tryz.prog tb Tryz.f181 = some ir181 := by kernel_rfl
theorem comp182 : compF Tryz.prog tb Tryz.f182 = some ir182 := by kernel_rfl
theorem comp183 : compF Tryz.prog tb Tryz.f183 = some ir183 := by kernel_rfl
theorem comp184 : compF Tryz.prog tb Tryz.f184 = some ir184 := by kernel_rfl
theorem comp185 : compF Tryz.prog tb Tryz.f185 = some ir185 := by kernel_rfl
theorem comp186 : compF Tryz.prog tb Tryz.f186 = some ir186 := by kernel_rfl
theorem comp187 : compF Tryz.prog tb Tryz.f187 = some ir187 := by kernel_rfl
theorem comp188 : compF Tryz.prog tb Tryz.f188 = some ir188 := by kernel_rfl
theorem comp189 : compF Tryz.prog tb Tryz.f189 = some ir189 := by kernel_rfl
theorem comp190 : compF Tryz.prog tb Tryz.f190 = some ir190 := by kernel_rfl
theorem comp191 : compF Tryz.prog tb Tryz.f191 = some ir191 := by kernel_rfl
theorem comp192 : compF Tryz.prog tb Tryz.f192 = some ir192 := by kernel_rfl
theorem comp193 : compF Tryz.prog tb Tryz.f193 = some ir193 := by kernel_rfl
theorem comp194 : compF Tryz.prog tb Tryz.f194 = some ir194 := by kernel_rfl
theorem comp195 : compF Tryz.prog tb Tryz.f195 = some ir195 := by kernel_rfl
theorem comp196 : compF Tryz.prog tb Tryz.f196 = some ir196 := by kernel_rfl
theorem comp197 : compF Tryz.prog tb Tryz.f197 = some ir197 := by kernel_rfl
theorem comp206 : compF Tryz.prog tb Tryz.f206 = some ir206 := by kernel_rfl
theorem comp207 : compF Tryz.prog tb Tryz.f207 = some ir207 := by kernel_rfl
theorem comp208 : compF Tryz.prog tb Tryz.f208 = some ir208 := by kernel_rfl
theorem comp209 : compF Tryz.prog tb Tryz.f209 = some ir209 := by kernel_rfl
theorem comps : ∀ p, p ∈ irs → ∃ fn, Tryz.prog.funcs[p.1]? = some fn ∧ compF Tryz.prog tb fn = some p.2 := by
  intro p hp
  unfold irs at hp
  simp only [List.mem_cons, List.not_mem_nil, or_false] at hp
  rcases hp with rfl | rfl | rfl | rfl | rfl | rfl | rfl | rfl | rfl | rfl | rfl | rfl | rfl | rfl | rfl | rfl | rfl | rfl | rfl | rfl | rfl | rfl | rfl | rfl | rfl | rfl | rfl | rfl | rfl | rfl | rfl | rfl | rfl | rfl | rfl | rfl | rfl | rfl | rfl | rfl | rfl | rfl | rfl | rfl | rfl | rfl | rfl | rfl | rfl | rfl | rfl | rfl | rfl | rfl | rfl | rfl | rfl | rfl | rfl | rfl | rfl | rfl | rfl | rfl | rfl | rfl | rfl | rfl | rfl | rfl | rfl | rfl | rfl | rfl | rfl | rfl | rfl | rfl | rfl | rfl | rfl | rfl | rfl | rfl | rfl | rfl | rfl | rfl | rfl | rfl | rfl | rfl | rfl | rfl | rfl | rfl | rfl | rfl | rfl | rfl | rfl | rfl | rfl | rfl | rfl | rfl | rfl | rfl | rfl | rfl | rfl | rfl | rfl | rfl | rfl
  · exact ⟨_, Tryz.func3, comp3⟩
  · exact ⟨_, Tryz.func4, comp4⟩
  · exact ⟨_, Tryz.func5, comp5⟩
  · exact ⟨_, Tryz.func9, comp9⟩
  · exact ⟨_, Tryz.func10, comp10⟩
  · exact ⟨_, Tryz.func11, comp11⟩
  · exact ⟨_, Tryz.func12, comp12⟩
  · exact ⟨_, Tryz.func13, comp13⟩
  · exact ⟨_, Tryz.func14, comp14⟩
  · exact ⟨_, Tryz.func15, comp15⟩
  · exact ⟨_, Tryz.func16, comp16⟩
  · exact ⟨_, Tryz.func23, comp23⟩
  · exact ⟨_, Tryz.func25, comp25⟩
  · exact ⟨_, Tryz.func26, comp26⟩
  · exact ⟨_, Tryz.func27, comp27⟩
  · exact ⟨_, Tryz.func28, comp28⟩
  · exact ⟨_, Tryz.func29, comp29⟩
  · exact ⟨_, Tryz.func30, comp30⟩
  · exact ⟨_, Tryz.func31, comp31⟩
  · exact ⟨_, Tryz.func32, comp32⟩
  · exact ⟨_, Tryz.func33, comp33⟩
  · exact ⟨_, Tryz.func34, comp34⟩
  · exact ⟨_, Tryz.func35, comp35⟩
  · exact ⟨_, Tryz.func36, comp36⟩
  · exact ⟨_, Tryz.func37, comp37⟩
  · exact ⟨_, Tryz.func38, comp38⟩
  · exact ⟨_, Tryz.func39, comp39⟩
  · exact ⟨_, Tryz.func40, comp40⟩
  · exact ⟨_, Tryz.func41, comp41⟩
  · exact ⟨_, Tryz.func42, comp42⟩
  · exact ⟨_, Tryz.func43, comp43⟩
  · exact ⟨_, Tryz.func44, comp44⟩
  · exact ⟨_, Tryz.func45, comp45⟩
  · exact ⟨_, Tryz.func46, comp46⟩
  · exact ⟨_, Tryz.func47, comp47⟩
  · exact ⟨_, Tryz.func48, comp48⟩
  · exact ⟨_, Tryz.func55, comp55⟩
  · exact ⟨_, Tryz.func60, comp60⟩
  · exact ⟨_, Tryz.func61, comp61⟩
  · exact ⟨_, Tryz.func62, comp62⟩
  · exact ⟨_, Tryz.func63, comp63⟩
  · exact ⟨_, Tryz.func64, comp64⟩
  · exact ⟨_, Tryz.func65, comp65⟩
  · exact ⟨_, Tryz.func66, comp66⟩
  · exact ⟨_, Tryz.func67, comp67⟩
  · exact ⟨_, Tryz.func68, comp68⟩
  · exact ⟨_, Tryz.func69, comp69⟩
  · exact ⟨_, Tryz.func70, comp70⟩
  · exact ⟨_, Tryz.func71, comp71⟩
  · exact ⟨_, Tryz.func72, comp72⟩
  · exact ⟨_, Tryz.func73, comp73⟩
  · exact ⟨_, Tryz.func74, comp74⟩
  · exact ⟨_, Tryz.func75, comp75⟩
  · exact ⟨_, Tryz.func76, comp76⟩
  · exact ⟨_, Tryz.func77, comp77⟩
  · exact ⟨_, Tryz.func95, comp95⟩
  · exact ⟨_, Tryz.func96, comp96⟩
  · exact ⟨_, Tryz.func97, comp97⟩
  · exact ⟨_, Tryz.func98, comp98⟩
  · exact ⟨_, Tryz.func99, comp99⟩
  · exact ⟨_, Tryz.func100, comp100⟩
  · exact ⟨_, Tryz.func101, comp101⟩
  · exact ⟨_, Tryz.func102, comp102⟩
  · exact ⟨_, Tryz.func103, comp103⟩
  · exact ⟨_, Tryz.func104, comp104⟩
  · exact ⟨_, Tryz.func105, comp105⟩
  · exact ⟨_, Tryz.func106, comp106⟩
  · exact ⟨_, Tryz.func107, comp107⟩
  · exact ⟨_, Tryz.func108, comp108⟩
  · exact ⟨_, Tryz.func109, comp109⟩
  · exact ⟨_, Tryz.func110, comp110⟩
  · exact ⟨_, Tryz.func111, comp111⟩
  · exact ⟨_, Tryz.func112, comp112⟩
  · exact ⟨_, Tryz.func139, comp139⟩
  · exact ⟨_, Tryz.func140, comp140⟩
  · exact ⟨_, Tryz.func141, comp141⟩
  · exact ⟨_, Tryz.func142, comp142⟩
  · exact ⟨_, Tryz.func143, comp143⟩
  · exact ⟨_, Tryz.func144, comp144⟩
  · exact ⟨_, Tryz.func145, comp145⟩
  · exact ⟨_, Tryz.func146, comp146⟩
  · exact ⟨_, Tryz.func147, comp147⟩
  · exact ⟨_, Tryz.func148, comp148⟩
  · exact ⟨_, Tryz.func149, comp149⟩
  · exact ⟨_, Tryz.func150, comp150⟩
  · exact ⟨_, Tryz.func151, comp151⟩
  · exact ⟨_, Tryz.func152, comp152⟩
  · exact ⟨_, Tryz.func153, comp153⟩
  · exact ⟨_, Tryz.func154, comp154⟩
  · exact ⟨_, Tryz.func155, comp155⟩
  · exact ⟨_, Tryz.func164, comp164⟩
  · exact ⟨_, Tryz.func178, comp178⟩
  · exact ⟨_, Tryz.func179, comp179⟩
  · exact ⟨_, Tryz.func180, comp180⟩
  · exact ⟨_, Tryz.func181, comp181⟩
  · exact ⟨_, Tryz.func182, comp182⟩
  · exact ⟨_, Tryz.func183, comp183⟩
  · exact ⟨_, Tryz.func184, comp184⟩
  · exact ⟨_, Tryz.func185, comp185⟩
  · exact ⟨_, Tryz.func186, comp186⟩
  · exact ⟨_, Tryz.func187, comp187⟩
  · exact ⟨_, Tryz.func188, comp188⟩
  · exact ⟨_, Tryz.func189, comp189⟩
  · exact ⟨_, Tryz.func190, comp190⟩
  · exact ⟨_, Tryz.func191, comp191⟩
  · exact ⟨_, Tryz.func192, comp192⟩
  · exact ⟨_, Tryz.func193, comp193⟩
  · exact ⟨_, Tryz.func194, comp194⟩
  · exact ⟨_, Tryz.func195, comp195⟩
  · exact ⟨_, Tryz.func196, comp196⟩
  · exact ⟨_, Tryz.func197, comp197⟩
  · exact ⟨_, Tryz.func206, comp206⟩
  · exact ⟨_, Tryz.func207, comp207⟩
  · exact ⟨_, Tryz.func208, comp208⟩
  · exact ⟨_, Tryz.func209, comp209⟩
end Go.Proofs.YtdjcnfacjfnakaaGreat
