/- The forms are those of the program's functions. -/
import Derived.Test.YtcbgiabippcpaaaGreatDoorIrA
import Derived.Test.YtcbgiabippcpaaaGreatDoorProg
import Derived.KernelRfl
set_option linter.unusedSimpArgs false
set_option linter.unusedVariables false
set_option maxRecDepth 10000
namespace Go.Proofs.YtcbgiabippcpaaaGreatDoor
open Go.Pi
theorem f0J:a3Z Tryz.prog tb Tryz.f6=some ir6:=by kernel_rfl
theorem f0K:a3Z Tryz.prog tb Tryz.f7=some ir7:=by kernel_rfl
theorem f0L:a3Z Tryz.prog tb Tryz.f8=some ir8:=by kernel_rfl
theorem f0M:a3Z Tryz.prog tb Tryz.f9=some ir9:=by kernel_rfl
theorem f0N:a3Z Tryz.prog tb Tryz.f11=some c3T:=by kernel_rfl
theorem f0O:a3Z Tryz.prog tb Tryz.f12=some c3U:=by kernel_rfl
theorem f0P:a3Z Tryz.prog tb Tryz.f13=some c3W:=by kernel_rfl
theorem f0Q:a3Z Tryz.prog tb Tryz.f15=some ir15:=by kernel_rfl
theorem f0R:a3Z Tryz.prog tb Tryz.f16=some c4D:=by kernel_rfl
theorem f0S:a3Z Tryz.prog tb Tryz.f17=some c4H:=by kernel_rfl
theorem f0T:a3Z Tryz.prog tb Tryz.f18=some c4I:=by kernel_rfl
theorem f0U:a3Z Tryz.prog tb Tryz.f19=some c4J:=by kernel_rfl
theorem f0V:a3Z Tryz.prog tb Tryz.f20=some c4L:=by kernel_rfl
theorem f0W:a3Z Tryz.prog tb Tryz.f21=some c4M:=by kernel_rfl
theorem f0X:a3Z Tryz.prog tb Tryz.f22=some c4O:=by kernel_rfl
theorem f0Y:a3Z Tryz.prog tb Tryz.f23=some c4P:=by kernel_rfl
theorem f0Z:a3Z Tryz.prog tb Tryz.f24=some c4Q:=by kernel_rfl
theorem f1A:a3Z Tryz.prog tb Tryz.f30=some c4S:=by kernel_rfl
theorem f1B:a3Z Tryz.prog tb Tryz.f31=some c4U:=by kernel_rfl
theorem f1C:a3Z Tryz.prog tb Tryz.f32=some c4V:=by kernel_rfl
theorem f1D:a3Z Tryz.prog tb Tryz.f33=some c4W:=by kernel_rfl
theorem f1E:a3Z Tryz.prog tb Tryz.f34=some c4Y:=by kernel_rfl
theorem f1F:a3Z Tryz.prog tb Tryz.f35=some c4Z:=by kernel_rfl
theorem f1G:a3Z Tryz.prog tb Tryz.f36=some c5A:=by kernel_rfl
theorem f1H:a3Z Tryz.prog tb Tryz.f37=some c5B:=by kernel_rfl
theorem f1I:a3Z Tryz.prog tb Tryz.f38=some c5C:=by kernel_rfl
theorem f1J:a3Z Tryz.prog tb Tryz.f40=some ir40:=by kernel_rfl
theorem f1K:a3Z Tryz.prog tb Tryz.f41=some ir41:=by kernel_rfl
theorem f1L:a3Z Tryz.prog tb Tryz.f42=some c5F:=by kernel_rfl
theorem f1M:a3Z Tryz.prog tb Tryz.f43=some c5H:=by kernel_rfl
theorem f1N:a3Z Tryz.prog tb Tryz.f44=some c5I:=by kernel_rfl
theorem f1O:a3Z Tryz.prog tb Tryz.f45=some c5J:=by kernel_rfl
theorem f1P:a3Z Tryz.prog tb Tryz.f46=some c5K:=by kernel_rfl
theorem f1Q:a3Z Tryz.prog tb Tryz.f47=some c5M:=by kernel_rfl
theorem f1R:a3Z Tryz.prog tb Tryz.f48=some c5O:=by kernel_rfl
theorem f1S:a3Z Tryz.prog tb Tryz.f49=some c5P:=by kernel_rfl
theorem f1T:a3Z Tryz.prog tb Tryz.f50=some c5R:=by kernel_rfl
theorem f1U:a3Z Tryz.prog tb Tryz.f51=some c5T:=by kernel_rfl
theorem f1V:a3Z Tryz.prog tb Tryz.f52=some c5V:=by kernel_rfl
theorem f1W:a3Z Tryz.prog tb Tryz.f53=some c5X:=by kernel_rfl
theorem f1X:a3Z Tryz.prog tb Tryz.f54=some c5Y:=by kernel_rfl
theorem f1Y:a3Z Tryz.prog tb Tryz.f55=some c5Z:=by kernel_rfl
theorem f1Z:a3Z Tryz.prog tb Tryz.f56=some c6A:=by kernel_rfl
theorem f2A:a3Z Tryz.prog tb Tryz.f57=some c6B:=by kernel_rfl
theorem f2B:a3Z Tryz.prog tb Tryz.f58=some c6C:=by kernel_rfl
theorem f2C:a3Z Tryz.prog tb Tryz.f59=some c6D:=by kernel_rfl
theorem f2D:a3Z Tryz.prog tb Tryz.f60=some c6E:=by kernel_rfl
theorem f2E:a3Z Tryz.prog tb Tryz.f61=some c6F:=by kernel_rfl
theorem f2F:a3Z Tryz.prog tb Tryz.f65=some c6H:=by kernel_rfl
theorem f2G:a3Z Tryz.prog tb Tryz.f66=some c6I:=by kernel_rfl
theorem f2H:a3Z Tryz.prog tb Tryz.f67=some c6K:=by kernel_rfl
theorem f2I:a3Z Tryz.prog tb Tryz.f68=some c6L:=by kernel_rfl
theorem f2J:a3Z Tryz.prog tb Tryz.f69=some c6M:=by kernel_rfl
theorem f2K:a3Z Tryz.prog tb Tryz.f70=some c6N:=by kernel_rfl
theorem f2L:a3Z Tryz.prog tb Tryz.f71=some c6P:=by kernel_rfl
theorem f2M:a3Z Tryz.prog tb Tryz.f72=some c6Q:=by kernel_rfl
theorem f2N:a3Z Tryz.prog tb Tryz.f73=some c6S:=by kernel_rfl
theorem f2O:a3Z Tryz.prog tb Tryz.f74=some c6T:=by kernel_rfl
theorem f2P:a3Z Tryz.prog tb Tryz.f75=some c6V:=by kernel_rfl
theorem f2Q:a3Z Tryz.prog tb Tryz.f76=some c6W:=by kernel_rfl
theorem f2R:a3Z Tryz.prog tb Tryz.f77=some c6X:=by kernel_rfl
theorem f2S:a3Z Tryz.prog tb Tryz.f78=some c6Y:=by kernel_rfl
theorem f2T:a3Z Tryz.prog tb Tryz.f79=some c7A:=by kernel_rfl
theorem f2U:a3Z Tryz.prog tb Tryz.f81=some c7B:=by kernel_rfl
theorem f2V:a3Z Tryz.prog tb Tryz.f82=some c7D:=by kernel_rfl
theorem f2W:a3Z Tryz.prog tb Tryz.f83=some c7F:=by kernel_rfl
theorem f2X:a3Z Tryz.prog tb Tryz.f84=some c7G:=by kernel_rfl
theorem f2Y:a3Z Tryz.prog tb Tryz.f85=some c7H:=by kernel_rfl
theorem f2Z:a3Z Tryz.prog tb Tryz.f86=some c7K:=by kernel_rfl
theorem f3A:a3Z Tryz.prog tb Tryz.f87=some c7L:=by kernel_rfl
theorem f3B:a3Z Tryz.prog tb Tryz.f88=some c7M:=by kernel_rfl
theorem f3C:a3Z Tryz.prog tb Tryz.f89=some c7O:=by kernel_rfl
theorem f3D:a3Z Tryz.prog tb Tryz.f90=some c7Q:=by kernel_rfl
theorem f3E:a3Z Tryz.prog tb Tryz.f91=some c7R:=by kernel_rfl
theorem f3F:a3Z Tryz.prog tb Tryz.f92=some c7T:=by kernel_rfl
theorem f3G:a3Z Tryz.prog tb Tryz.f93=some c7U:=by kernel_rfl
theorem f3H:a3Z Tryz.prog tb Tryz.f94=some c7V:=by kernel_rfl
theorem f3I:a3Z Tryz.prog tb Tryz.f95=some c7W:=by kernel_rfl
theorem f3J:a3Z Tryz.prog tb Tryz.f96=some c7X:=by kernel_rfl
theorem f3K:a3Z Tryz.prog tb Tryz.f97=some c7Z:=by kernel_rfl
theorem f3L:a3Z Tryz.prog tb Tryz.f98=some c8A:=by kernel_rfl
theorem f3M:a3Z Tryz.prog tb Tryz.f99=some c8C:=by kernel_rfl
theorem f3N:a3Z Tryz.prog tb Tryz.f100=some c8D:=by kernel_rfl
theorem f3O:a3Z Tryz.prog tb Tryz.f101=some c8E:=by kernel_rfl
theorem f3P:a3Z Tryz.prog tb Tryz.f102=some c8F:=by kernel_rfl
theorem f3Q:a3Z Tryz.prog tb Tryz.f103=some c8G:=by kernel_rfl
theorem f3R:a3Z Tryz.prog tb Tryz.f104=some c8H:=by kernel_rfl
theorem f3S:a3Z Tryz.prog tb Tryz.f105=some c8J:=by kernel_rfl
theorem f3T:a3Z Tryz.prog tb Tryz.f107=some c8K:=by kernel_rfl
theorem f3U:a3Z Tryz.prog tb Tryz.f108=some c8L:=by kernel_rfl
theorem f3V:a3Z Tryz.prog tb Tryz.f109=some c8M:=by kernel_rfl
theorem f3W:a3Z Tryz.prog tb Tryz.f110=some c8N:=by kernel_rfl
theorem f3X:a3Z Tryz.prog tb Tryz.f111=some c8O:=by kernel_rfl
theorem f3Y:a3Z Tryz.prog tb Tryz.f112=some c8P:=by kernel_rfl
theorem f3Z:a3Z Tryz.prog tb Tryz.f115=some c8Q:=by kernel_rfl
theorem f4A:a3Z Tryz.prog tb Tryz.f116=some c8R:=by kernel_rfl
theorem f4B:a3Z Tryz.prog tb Tryz.f117=some c8T:=by kernel_rfl
theorem f4C:a3Z Tryz.prog tb Tryz.f118=some c8U:=by kernel_rfl
theorem f4D:a3Z Tryz.prog tb Tryz.f119=some c8V:=by kernel_rfl
theorem f4E:a3Z Tryz.prog tb Tryz.f120=some c8W:=by kernel_rfl
theorem f4F:a3Z Tryz.prog tb Tryz.f121=some c8X:=by kernel_rfl
theorem f4G:a3Z Tryz.prog tb Tryz.f125=some c8Y:=by kernel_rfl
theorem f4H:a3Z Tryz.prog tb Tryz.f126=some c8Z:=by kernel_rfl
theorem f4I:a3Z Tryz.prog tb Tryz.f127=some c9A:=by kernel_rfl
theorem f4J:a3Z Tryz.prog tb Tryz.f128=some c9C:=by kernel_rfl
theorem f4K:a3Z Tryz.prog tb Tryz.f129=some c9D:=by kernel_rfl
theorem f4L:a3Z Tryz.prog tb Tryz.f130=some c9E:=by kernel_rfl
theorem f4M:a3Z Tryz.prog tb Tryz.f131=some c9U:=by kernel_rfl
theorem f4N:a3Z Tryz.prog tb Tryz.f141=some c9V:=by kernel_rfl
theorem f4O:a3Z Tryz.prog tb Tryz.f142=some c9X:=by kernel_rfl
theorem f4P:a3Z Tryz.prog tb Tryz.f143=some c9Y:=by kernel_rfl
theorem f4Q:∀ p,p∈irs→∃ fn,Tryz.prog.funcs[p.1]?=some fn∧a3Z Tryz.prog tb fn=some p.2:=by
 intro p hp
 unfold irs at hp
 simp only[h2X,h3H,or_false] at hp
 rcases hp with rfl|rfl|rfl|rfl|rfl|rfl|rfl|rfl|rfl|rfl|rfl|rfl|rfl|rfl|rfl|rfl|rfl|rfl|rfl|rfl|rfl|rfl|rfl|rfl|rfl|rfl|rfl|rfl|rfl|rfl|rfl|rfl|rfl|rfl|rfl|rfl|rfl|rfl|rfl|rfl|rfl|rfl|rfl|rfl|rfl|rfl|rfl|rfl|rfl|rfl|rfl|rfl|rfl|rfl|rfl|rfl|rfl|rfl|rfl|rfl|rfl|rfl|rfl|rfl|rfl|rfl|rfl|rfl|rfl|rfl|rfl|rfl|rfl|rfl|rfl|rfl|rfl|rfl|rfl|rfl|rfl|rfl|rfl|rfl|rfl|rfl|rfl|rfl|rfl|rfl|rfl|rfl|rfl|rfl|rfl|rfl|rfl|rfl|rfl|rfl|rfl|rfl|rfl|rfl|rfl|rfl|rfl|rfl|rfl|rfl|rfl
 ·exact⟨_,Tryz.func6,f0J⟩
 ·exact⟨_,Tryz.func7,f0K⟩
 ·exact⟨_,Tryz.func8,f0L⟩
 ·exact⟨_,Tryz.func9,f0M⟩
 ·exact⟨_,Tryz.func11,f0N⟩
 ·exact⟨_,Tryz.func12,f0O⟩
 ·exact⟨_,Tryz.func13,f0P⟩
 ·exact⟨_,Tryz.func15,f0Q⟩
 ·exact⟨_,Tryz.func16,f0R⟩
 ·exact⟨_,Tryz.func17,f0S⟩
 ·exact⟨_,Tryz.func18,f0T⟩
 ·exact⟨_,Tryz.func19,f0U⟩
 ·exact⟨_,Tryz.func20,f0V⟩
 ·exact⟨_,Tryz.func21,f0W⟩
 ·exact⟨_,Tryz.func22,f0X⟩
 ·exact⟨_,Tryz.func23,f0Y⟩
 ·exact⟨_,Tryz.func24,f0Z⟩
 ·exact⟨_,Tryz.func30,f1A⟩
 ·exact⟨_,Tryz.func31,f1B⟩
 ·exact⟨_,Tryz.func32,f1C⟩
 ·exact⟨_,Tryz.func33,f1D⟩
 ·exact⟨_,Tryz.func34,f1E⟩
 ·exact⟨_,Tryz.func35,f1F⟩
 ·exact⟨_,Tryz.func36,f1G⟩
 ·exact⟨_,Tryz.func37,f1H⟩
 ·exact⟨_,Tryz.func38,f1I⟩
 ·exact⟨_,Tryz.func40,f1J⟩
 ·exact⟨_,Tryz.func41,f1K⟩
 ·exact⟨_,Tryz.func42,f1L⟩
 ·exact⟨_,Tryz.func43,f1M⟩
 ·exact⟨_,Tryz.func44,f1N⟩
 ·exact⟨_,Tryz.func45,f1O⟩
 ·exact⟨_,Tryz.func46,f1P⟩
 ·exact⟨_,Tryz.func47,f1Q⟩
 ·exact⟨_,Tryz.func48,f1R⟩
 ·exact⟨_,Tryz.func49,f1S⟩
 ·exact⟨_,Tryz.func50,f1T⟩
 ·exact⟨_,Tryz.func51,f1U⟩
 ·exact⟨_,Tryz.func52,f1V⟩
 ·exact⟨_,Tryz.func53,f1W⟩
 ·exact⟨_,Tryz.func54,f1X⟩
 ·exact⟨_,Tryz.func55,f1Y⟩
 ·exact⟨_,Tryz.func56,f1Z⟩
 ·exact⟨_,Tryz.func57,f2A⟩
 ·exact⟨_,Tryz.func58,f2B⟩
 ·exact⟨_,Tryz.func59,f2C⟩
 ·exact⟨_,Tryz.func60,f2D⟩
 ·exact⟨_,Tryz.func61,f2E⟩
 ·exact⟨_,Tryz.func65,f2F⟩
 ·exact⟨_,Tryz.func66,f2G⟩
 ·exact⟨_,Tryz.func67,f2H⟩
 ·exact⟨_,Tryz.func68,f2I⟩
 ·exact⟨_,Tryz.func69,f2J⟩
 ·exact⟨_,Tryz.func70,f2K⟩
 ·exact⟨_,Tryz.func71,f2L⟩
 ·exact⟨_,Tryz.func72,f2M⟩
 ·exact⟨_,Tryz.func73,f2N⟩
 ·exact⟨_,Tryz.func74,f2O⟩
 ·exact⟨_,Tryz.func75,f2P⟩
 ·exact⟨_,Tryz.func76,f2Q⟩
 ·exact⟨_,Tryz.func77,f2R⟩
 ·exact⟨_,Tryz.func78,f2S⟩
 ·exact⟨_,Tryz.func79,f2T⟩
 ·exact⟨_,Tryz.func81,f2U⟩
 ·exact⟨_,Tryz.func82,f2V⟩
 ·exact⟨_,Tryz.func83,f2W⟩
 ·exact⟨_,Tryz.func84,f2X⟩
 ·exact⟨_,Tryz.func85,f2Y⟩
 ·exact⟨_,Tryz.func86,f2Z⟩
 ·exact⟨_,Tryz.func87,f3A⟩
 ·exact⟨_,Tryz.func88,f3B⟩
 ·exact⟨_,Tryz.func89,f3C⟩
 ·exact⟨_,Tryz.func90,f3D⟩
 ·exact⟨_,Tryz.func91,f3E⟩
 ·exact⟨_,Tryz.func92,f3F⟩
 ·exact⟨_,Tryz.func93,f3G⟩
 ·exact⟨_,Tryz.func94,f3H⟩
 ·exact⟨_,Tryz.func95,f3I⟩
 ·exact⟨_,Tryz.func96,f3J⟩
 ·exact⟨_,Tryz.func97,f3K⟩
 ·exact⟨_,Tryz.func98,f3L⟩
 ·exact⟨_,Tryz.func99,f3M⟩
 ·exact⟨_,Tryz.func100,f3N⟩
 ·exact⟨_,Tryz.func101,f3O⟩
 ·exact⟨_,Tryz.func102,f3P⟩
 ·exact⟨_,Tryz.func103,f3Q⟩
 ·exact⟨_,Tryz.func104,f3R⟩
 ·exact⟨_,Tryz.func105,f3S⟩
 ·exact⟨_,Tryz.func107,f3T⟩
 ·exact⟨_,Tryz.func108,f3U⟩
 ·exact⟨_,Tryz.func109,f3V⟩
 ·exact⟨_,Tryz.func110,f3W⟩
 ·exact⟨_,Tryz.func111,f3X⟩
 ·exact⟨_,Tryz.func112,f3Y⟩
 ·exact⟨_,Tryz.func115,f3Z⟩
 ·exact⟨_,Tryz.func116,f4A⟩
 ·exact⟨_,Tryz.func117,f4B⟩
 ·exact⟨_,Tryz.func118,f4C⟩
 ·exact⟨_,Tryz.func119,f4D⟩
 ·exact⟨_,Tryz.func120,f4E⟩
 ·exact⟨_,Tryz.func121,f4F⟩
 ·exact⟨_,Tryz.func125,f4G⟩
 ·exact⟨_,Tryz.func126,f4H⟩
 ·exact⟨_,Tryz.func127,f4I⟩
 ·exact⟨_,Tryz.func128,f4J⟩
 ·exact⟨_,Tryz.func129,f4K⟩
 ·exact⟨_,Tryz.func130,f4L⟩
 ·exact⟨_,Tryz.func131,f4M⟩
 ·exact⟨_,Tryz.func141,f4N⟩
 ·exact⟨_,Tryz.func142,f4O⟩
 ·exact⟨_,Tryz.func143,f4P⟩
end Go.Proofs.YtcbgiabippcpaaaGreatDoor
