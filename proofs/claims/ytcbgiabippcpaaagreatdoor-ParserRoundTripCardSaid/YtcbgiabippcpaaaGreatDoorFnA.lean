/- The forms are those of the program's functions. -/
import Derived.Test.YtcbgiabippcpaaaGreatDoorIrA
import Derived.Test.YtcbgiabippcpaaaGreatDoorProg
import Derived.KernelRfl
set_option linter.unusedSimpArgs false
set_option linter.unusedVariables false
set_option maxRecDepth 10000
namespace Go.Proofs.YtcbgiabippcpaaaGreatDoor
open Go.Pi
theorem e7W:a3Z Tryz.prog tb Tryz.f6=some ir6:=by kernel_rfl
theorem e7X:a3Z Tryz.prog tb Tryz.f7=some ir7:=by kernel_rfl
theorem e7Y:a3Z Tryz.prog tb Tryz.f8=some ir8:=by kernel_rfl
theorem e7Z:a3Z Tryz.prog tb Tryz.f9=some ir9:=by kernel_rfl
theorem e8A:a3Z Tryz.prog tb Tryz.f11=some c3T:=by kernel_rfl
theorem e8B:a3Z Tryz.prog tb Tryz.f12=some c3U:=by kernel_rfl
theorem e8C:a3Z Tryz.prog tb Tryz.f13=some c3W:=by kernel_rfl
theorem e8D:a3Z Tryz.prog tb Tryz.f15=some c4A:=by kernel_rfl
theorem e8E:a3Z Tryz.prog tb Tryz.f16=some c4E:=by kernel_rfl
theorem e8F:a3Z Tryz.prog tb Tryz.f17=some ir17:=by kernel_rfl
theorem e8G:a3Z Tryz.prog tb Tryz.f18=some c4I:=by kernel_rfl
theorem e8H:a3Z Tryz.prog tb Tryz.f19=some c4J:=by kernel_rfl
theorem e8I:a3Z Tryz.prog tb Tryz.f20=some c4L:=by kernel_rfl
theorem e8J:a3Z Tryz.prog tb Tryz.f21=some c4M:=by kernel_rfl
theorem e8K:a3Z Tryz.prog tb Tryz.f22=some c4O:=by kernel_rfl
theorem e8L:a3Z Tryz.prog tb Tryz.f23=some c4P:=by kernel_rfl
theorem e8M:a3Z Tryz.prog tb Tryz.f24=some c4Q:=by kernel_rfl
theorem e8N:a3Z Tryz.prog tb Tryz.f30=some c4S:=by kernel_rfl
theorem e8O:a3Z Tryz.prog tb Tryz.f31=some c4U:=by kernel_rfl
theorem e8P:a3Z Tryz.prog tb Tryz.f32=some c4V:=by kernel_rfl
theorem e8Q:a3Z Tryz.prog tb Tryz.f33=some c4W:=by kernel_rfl
theorem e8R:a3Z Tryz.prog tb Tryz.f34=some c4Y:=by kernel_rfl
theorem e8S:a3Z Tryz.prog tb Tryz.f35=some c4Z:=by kernel_rfl
theorem e8T:a3Z Tryz.prog tb Tryz.f36=some c5A:=by kernel_rfl
theorem e8U:a3Z Tryz.prog tb Tryz.f37=some c5B:=by kernel_rfl
theorem e8V:a3Z Tryz.prog tb Tryz.f38=some c5C:=by kernel_rfl
theorem e8W:a3Z Tryz.prog tb Tryz.f40=some c5E:=by kernel_rfl
theorem e8X:a3Z Tryz.prog tb Tryz.f41=some c5G:=by kernel_rfl
theorem e8Y:a3Z Tryz.prog tb Tryz.f42=some c5H:=by kernel_rfl
theorem e8Z:a3Z Tryz.prog tb Tryz.f43=some c5J:=by kernel_rfl
theorem e9A:a3Z Tryz.prog tb Tryz.f44=some c5K:=by kernel_rfl
theorem e9B:a3Z Tryz.prog tb Tryz.f45=some c5L:=by kernel_rfl
theorem e9C:a3Z Tryz.prog tb Tryz.f46=some c5M:=by kernel_rfl
theorem e9D:a3Z Tryz.prog tb Tryz.f47=some ir47:=by kernel_rfl
theorem e9E:a3Z Tryz.prog tb Tryz.f48=some ir48:=by kernel_rfl
theorem e9F:a3Z Tryz.prog tb Tryz.f49=some ir49:=by kernel_rfl
theorem e9G:a3Z Tryz.prog tb Tryz.f50=some ir50:=by kernel_rfl
theorem e9H:a3Z Tryz.prog tb Tryz.f51=some ir51:=by kernel_rfl
theorem e9I:a3Z Tryz.prog tb Tryz.f52=some ir52:=by kernel_rfl
theorem e9J:a3Z Tryz.prog tb Tryz.f53=some c5T:=by kernel_rfl
theorem e9K:a3Z Tryz.prog tb Tryz.f54=some c5U:=by kernel_rfl
theorem e9L:a3Z Tryz.prog tb Tryz.f55=some c5V:=by kernel_rfl
theorem e9M:a3Z Tryz.prog tb Tryz.f56=some c5W:=by kernel_rfl
theorem e9N:a3Z Tryz.prog tb Tryz.f57=some c5X:=by kernel_rfl
theorem e9O:a3Z Tryz.prog tb Tryz.f58=some c5Y:=by kernel_rfl
theorem e9P:a3Z Tryz.prog tb Tryz.f59=some c5Z:=by kernel_rfl
theorem e9Q:a3Z Tryz.prog tb Tryz.f60=some c6A:=by kernel_rfl
theorem e9R:a3Z Tryz.prog tb Tryz.f61=some c6B:=by kernel_rfl
theorem e9S:a3Z Tryz.prog tb Tryz.f65=some c6D:=by kernel_rfl
theorem e9T:a3Z Tryz.prog tb Tryz.f66=some c6E:=by kernel_rfl
theorem e9U:a3Z Tryz.prog tb Tryz.f67=some c6G:=by kernel_rfl
theorem e9V:a3Z Tryz.prog tb Tryz.f68=some c6H:=by kernel_rfl
theorem e9W:a3Z Tryz.prog tb Tryz.f69=some c6I:=by kernel_rfl
theorem e9X:a3Z Tryz.prog tb Tryz.f70=some c6J:=by kernel_rfl
theorem e9Y:a3Z Tryz.prog tb Tryz.f71=some c6L:=by kernel_rfl
theorem e9Z:a3Z Tryz.prog tb Tryz.f72=some c6M:=by kernel_rfl
theorem f0A:a3Z Tryz.prog tb Tryz.f73=some c6O:=by kernel_rfl
theorem f0B:a3Z Tryz.prog tb Tryz.f74=some c6P:=by kernel_rfl
theorem f0C:a3Z Tryz.prog tb Tryz.f75=some c6R:=by kernel_rfl
theorem f0D:a3Z Tryz.prog tb Tryz.f76=some c6S:=by kernel_rfl
theorem f0E:a3Z Tryz.prog tb Tryz.f77=some c6T:=by kernel_rfl
theorem f0F:a3Z Tryz.prog tb Tryz.f78=some c6U:=by kernel_rfl
theorem f0G:a3Z Tryz.prog tb Tryz.f79=some c6W:=by kernel_rfl
theorem f0H:a3Z Tryz.prog tb Tryz.f81=some c6X:=by kernel_rfl
theorem f0I:a3Z Tryz.prog tb Tryz.f82=some ir82:=by kernel_rfl
theorem f0J:a3Z Tryz.prog tb Tryz.f83=some ir83:=by kernel_rfl
theorem f0K:a3Z Tryz.prog tb Tryz.f84=some ir84:=by kernel_rfl
theorem f0L:a3Z Tryz.prog tb Tryz.f85=some ir85:=by kernel_rfl
theorem f0M:a3Z Tryz.prog tb Tryz.f86=some c7C:=by kernel_rfl
theorem f0N:a3Z Tryz.prog tb Tryz.f87=some c7D:=by kernel_rfl
theorem f0O:a3Z Tryz.prog tb Tryz.f88=some c7E:=by kernel_rfl
theorem f0P:a3Z Tryz.prog tb Tryz.f89=some c7G:=by kernel_rfl
theorem f0Q:a3Z Tryz.prog tb Tryz.f90=some c7I:=by kernel_rfl
theorem f0R:a3Z Tryz.prog tb Tryz.f91=some c7J:=by kernel_rfl
theorem f0S:a3Z Tryz.prog tb Tryz.f92=some c7L:=by kernel_rfl
theorem f0T:a3Z Tryz.prog tb Tryz.f93=some c7M:=by kernel_rfl
theorem f0U:a3Z Tryz.prog tb Tryz.f94=some c7N:=by kernel_rfl
theorem f0V:a3Z Tryz.prog tb Tryz.f95=some c7O:=by kernel_rfl
theorem f0W:a3Z Tryz.prog tb Tryz.f96=some c7P:=by kernel_rfl
theorem f0X:a3Z Tryz.prog tb Tryz.f97=some c7R:=by kernel_rfl
theorem f0Y:a3Z Tryz.prog tb Tryz.f98=some c7S:=by kernel_rfl
theorem f0Z:a3Z Tryz.prog tb Tryz.f99=some c7U:=by kernel_rfl
theorem f1A:a3Z Tryz.prog tb Tryz.f100=some c7V:=by kernel_rfl
theorem f1B:a3Z Tryz.prog tb Tryz.f101=some c7W:=by kernel_rfl
theorem f1C:a3Z Tryz.prog tb Tryz.f102=some c7X:=by kernel_rfl
theorem f1D:a3Z Tryz.prog tb Tryz.f103=some c7Y:=by kernel_rfl
theorem f1E:a3Z Tryz.prog tb Tryz.f104=some c7Z:=by kernel_rfl
theorem f1F:a3Z Tryz.prog tb Tryz.f105=some c8B:=by kernel_rfl
theorem f1G:a3Z Tryz.prog tb Tryz.f107=some c8C:=by kernel_rfl
theorem f1H:a3Z Tryz.prog tb Tryz.f108=some c8D:=by kernel_rfl
theorem f1I:a3Z Tryz.prog tb Tryz.f109=some c8E:=by kernel_rfl
theorem f1J:a3Z Tryz.prog tb Tryz.f110=some c8F:=by kernel_rfl
theorem f1K:a3Z Tryz.prog tb Tryz.f111=some c8G:=by kernel_rfl
theorem f1L:a3Z Tryz.prog tb Tryz.f112=some c8H:=by kernel_rfl
theorem f1M:a3Z Tryz.prog tb Tryz.f115=some c8I:=by kernel_rfl
theorem f1N:a3Z Tryz.prog tb Tryz.f116=some c8J:=by kernel_rfl
theorem f1O:a3Z Tryz.prog tb Tryz.f117=some c8L:=by kernel_rfl
theorem f1P:a3Z Tryz.prog tb Tryz.f118=some c8M:=by kernel_rfl
theorem f1Q:a3Z Tryz.prog tb Tryz.f119=some c8N:=by kernel_rfl
theorem f1R:a3Z Tryz.prog tb Tryz.f120=some c8O:=by kernel_rfl
theorem f1S:a3Z Tryz.prog tb Tryz.f121=some c8P:=by kernel_rfl
theorem f1T:a3Z Tryz.prog tb Tryz.f125=some c8Q:=by kernel_rfl
theorem f1U:a3Z Tryz.prog tb Tryz.f126=some c8R:=by kernel_rfl
theorem f1V:a3Z Tryz.prog tb Tryz.f127=some c8S:=by kernel_rfl
theorem f1W:a3Z Tryz.prog tb Tryz.f128=some c8U:=by kernel_rfl
theorem f1X:a3Z Tryz.prog tb Tryz.f129=some c8V:=by kernel_rfl
theorem f1Y:a3Z Tryz.prog tb Tryz.f130=some c8W:=by kernel_rfl
theorem f1Z:a3Z Tryz.prog tb Tryz.f131=some c9M:=by kernel_rfl
theorem f2A:a3Z Tryz.prog tb Tryz.f141=some c9N:=by kernel_rfl
theorem f2B:a3Z Tryz.prog tb Tryz.f142=some c9P:=by kernel_rfl
theorem f2C:a3Z Tryz.prog tb Tryz.f143=some c9Q:=by kernel_rfl
theorem f2D:∀ p,p∈irs→∃ fn,Tryz.prog.funcs[p.1]?=some fn∧a3Z Tryz.prog tb fn=some p.2:=by
 intro p hp
 unfold irs at hp
 simp only[g7W,List.not_mem_nil,or_false] at hp
 rcases hp with rfl|rfl|rfl|rfl|rfl|rfl|rfl|rfl|rfl|rfl|rfl|rfl|rfl|rfl|rfl|rfl|rfl|rfl|rfl|rfl|rfl|rfl|rfl|rfl|rfl|rfl|rfl|rfl|rfl|rfl|rfl|rfl|rfl|rfl|rfl|rfl|rfl|rfl|rfl|rfl|rfl|rfl|rfl|rfl|rfl|rfl|rfl|rfl|rfl|rfl|rfl|rfl|rfl|rfl|rfl|rfl|rfl|rfl|rfl|rfl|rfl|rfl|rfl|rfl|rfl|rfl|rfl|rfl|rfl|rfl|rfl|rfl|rfl|rfl|rfl|rfl|rfl|rfl|rfl|rfl|rfl|rfl|rfl|rfl|rfl|rfl|rfl|rfl|rfl|rfl|rfl|rfl|rfl|rfl|rfl|rfl|rfl|rfl|rfl|rfl|rfl|rfl|rfl|rfl|rfl|rfl|rfl|rfl|rfl|rfl|rfl
 ·exact⟨_,Tryz.func6,e7W⟩
 ·exact⟨_,Tryz.func7,e7X⟩
 ·exact⟨_,Tryz.func8,e7Y⟩
 ·exact⟨_,Tryz.func9,e7Z⟩
 ·exact⟨_,Tryz.func11,e8A⟩
 ·exact⟨_,Tryz.func12,e8B⟩
 ·exact⟨_,Tryz.func13,e8C⟩
 ·exact⟨_,Tryz.func15,e8D⟩
 ·exact⟨_,Tryz.func16,e8E⟩
 ·exact⟨_,Tryz.func17,e8F⟩
 ·exact⟨_,Tryz.func18,e8G⟩
 ·exact⟨_,Tryz.func19,e8H⟩
 ·exact⟨_,Tryz.func20,e8I⟩
 ·exact⟨_,Tryz.func21,e8J⟩
 ·exact⟨_,Tryz.func22,e8K⟩
 ·exact⟨_,Tryz.func23,e8L⟩
 ·exact⟨_,Tryz.func24,e8M⟩
 ·exact⟨_,Tryz.func30,e8N⟩
 ·exact⟨_,Tryz.func31,e8O⟩
 ·exact⟨_,Tryz.func32,e8P⟩
 ·exact⟨_,Tryz.func33,e8Q⟩
 ·exact⟨_,Tryz.func34,e8R⟩
 ·exact⟨_,Tryz.func35,e8S⟩
 ·exact⟨_,Tryz.func36,e8T⟩
 ·exact⟨_,Tryz.func37,e8U⟩
 ·exact⟨_,Tryz.func38,e8V⟩
 ·exact⟨_,Tryz.func40,e8W⟩
 ·exact⟨_,Tryz.func41,e8X⟩
 ·exact⟨_,Tryz.func42,e8Y⟩
 ·exact⟨_,Tryz.func43,e8Z⟩
 ·exact⟨_,Tryz.func44,e9A⟩
 ·exact⟨_,Tryz.func45,e9B⟩
 ·exact⟨_,Tryz.func46,e9C⟩
 ·exact⟨_,Tryz.func47,e9D⟩
 ·exact⟨_,Tryz.func48,e9E⟩
 ·exact⟨_,Tryz.func49,e9F⟩
 ·exact⟨_,Tryz.func50,e9G⟩
 ·exact⟨_,Tryz.func51,e9H⟩
 ·exact⟨_,Tryz.func52,e9I⟩
 ·exact⟨_,Tryz.func53,e9J⟩
 ·exact⟨_,Tryz.func54,e9K⟩
 ·exact⟨_,Tryz.func55,e9L⟩
 ·exact⟨_,Tryz.func56,e9M⟩
 ·exact⟨_,Tryz.func57,e9N⟩
 ·exact⟨_,Tryz.func58,e9O⟩
 ·exact⟨_,Tryz.func59,e9P⟩
 ·exact⟨_,Tryz.func60,e9Q⟩
 ·exact⟨_,Tryz.func61,e9R⟩
 ·exact⟨_,Tryz.func65,e9S⟩
 ·exact⟨_,Tryz.func66,e9T⟩
 ·exact⟨_,Tryz.func67,e9U⟩
 ·exact⟨_,Tryz.func68,e9V⟩
 ·exact⟨_,Tryz.func69,e9W⟩
 ·exact⟨_,Tryz.func70,e9X⟩
 ·exact⟨_,Tryz.func71,e9Y⟩
 ·exact⟨_,Tryz.func72,e9Z⟩
 ·exact⟨_,Tryz.func73,f0A⟩
 ·exact⟨_,Tryz.func74,f0B⟩
 ·exact⟨_,Tryz.func75,f0C⟩
 ·exact⟨_,Tryz.func76,f0D⟩
 ·exact⟨_,Tryz.func77,f0E⟩
 ·exact⟨_,Tryz.func78,f0F⟩
 ·exact⟨_,Tryz.func79,f0G⟩
 ·exact⟨_,Tryz.func81,f0H⟩
 ·exact⟨_,Tryz.func82,f0I⟩
 ·exact⟨_,Tryz.func83,f0J⟩
 ·exact⟨_,Tryz.func84,f0K⟩
 ·exact⟨_,Tryz.func85,f0L⟩
 ·exact⟨_,Tryz.func86,f0M⟩
 ·exact⟨_,Tryz.func87,f0N⟩
 ·exact⟨_,Tryz.func88,f0O⟩
 ·exact⟨_,Tryz.func89,f0P⟩
 ·exact⟨_,Tryz.func90,f0Q⟩
 ·exact⟨_,Tryz.func91,f0R⟩
 ·exact⟨_,Tryz.func92,f0S⟩
 ·exact⟨_,Tryz.func93,f0T⟩
 ·exact⟨_,Tryz.func94,f0U⟩
 ·exact⟨_,Tryz.func95,f0V⟩
 ·exact⟨_,Tryz.func96,f0W⟩
 ·exact⟨_,Tryz.func97,f0X⟩
 ·exact⟨_,Tryz.func98,f0Y⟩
 ·exact⟨_,Tryz.func99,f0Z⟩
 ·exact⟨_,Tryz.func100,f1A⟩
 ·exact⟨_,Tryz.func101,f1B⟩
 ·exact⟨_,Tryz.func102,f1C⟩
 ·exact⟨_,Tryz.func103,f1D⟩
 ·exact⟨_,Tryz.func104,f1E⟩
 ·exact⟨_,Tryz.func105,f1F⟩
 ·exact⟨_,Tryz.func107,f1G⟩
 ·exact⟨_,Tryz.func108,f1H⟩
 ·exact⟨_,Tryz.func109,f1I⟩
 ·exact⟨_,Tryz.func110,f1J⟩
 ·exact⟨_,Tryz.func111,f1K⟩
 ·exact⟨_,Tryz.func112,f1L⟩
 ·exact⟨_,Tryz.func115,f1M⟩
 ·exact⟨_,Tryz.func116,f1N⟩
 ·exact⟨_,Tryz.func117,f1O⟩
 ·exact⟨_,Tryz.func118,f1P⟩
 ·exact⟨_,Tryz.func119,f1Q⟩
 ·exact⟨_,Tryz.func120,f1R⟩
 ·exact⟨_,Tryz.func121,f1S⟩
 ·exact⟨_,Tryz.func125,f1T⟩
 ·exact⟨_,Tryz.func126,f1U⟩
 ·exact⟨_,Tryz.func127,f1V⟩
 ·exact⟨_,Tryz.func128,f1W⟩
 ·exact⟨_,Tryz.func129,f1X⟩
 ·exact⟨_,Tryz.func130,f1Y⟩
 ·exact⟨_,Tryz.func131,f1Z⟩
 ·exact⟨_,Tryz.func141,f2A⟩
 ·exact⟨_,Tryz.func142,f2B⟩
 ·exact⟨_,Tryz.func143,f2C⟩
end Go.Proofs.YtcbgiabippcpaaaGreatDoor
