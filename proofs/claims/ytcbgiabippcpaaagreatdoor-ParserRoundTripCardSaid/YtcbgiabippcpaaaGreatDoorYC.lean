/- The law's argument, a program, at the seat's variables. -/
import Derived.Test.YtcbgiabippcpaaaGreatDoorY7
import Derived.Test.YtcbgiabippcpaaaGreatDoorGP
set_option linter.unusedSimpArgs false
set_option linter.unusedVariables false
namespace Go.Proofs.YtcbgiabippcpaaaGreatDoor
open Go.Pi Go.Ky
theorem g5G:b4R Tryz.prog [44,97] (d2Z 44 97):=by
 intro e he
 have h1:b4P Tryz.prog [44,97] 20 44=some (d2X 44):=by kernel_rfl
 have h2:b4P Tryz.prog [44,97] 20 97=some (d2Y 44 97):=by kernel_rfl
 rcases g7W.1 he with rfl|he
 ·exact⟨h1,by kernel_rfl,by decide,g9T (by kernel_rfl)⟩
 ·rcases g7W.1 he with rfl|he
  ·exact⟨h2,by kernel_rfl,by decide,g9T (by kernel_rfl)⟩
  ·cases he
theorem g5H {m:Int} (hm:GlOk (glW m)):∀ xs,b4Z (d2Z 44 97) 140737488355328 [(true,ctPg 44 97)] xs→∃ n sg ow,a1Q F (glW m) n 6 (xs.map .t) [] []=some (.t (.bool true),sg,ow):=by
 intro xs h
 obtain⟨x,r,rfl,hx,h⟩:=d0J h
 obtain rfl:=d0K h
 obtain⟨ys,rfl,hw⟩:=d0I hx
 obtain⟨a,r,rfl,ha,hw⟩:=d0B hw
 obtain⟨b,r,rfl,hb,hw⟩:=d0B hw
 obtain⟨c,r,rfl,hc,hw⟩:=d0B hw
 obtain rfl:=d0A hw
 obtain⟨p,rfl,rfl,rfl,hp⟩:=d3G (by decide) d3A (d3B (by decide)) ha hb hc
 exact CallP.law (law6 hm rfl p hp)
end Go.Proofs.YtcbgiabippcpaaaGreatDoor
