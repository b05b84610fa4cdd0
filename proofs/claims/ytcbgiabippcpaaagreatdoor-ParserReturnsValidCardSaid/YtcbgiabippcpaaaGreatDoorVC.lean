/- The law's arguments, at the seat's variables. -/
import Derived.Test.YtcbgiabippcpaaaGreatDoorV5
import Derived.Test.YtcbgiabippcpaaaGreatDoorGP
set_option linter.unusedSimpArgs false
set_option linter.unusedVariables false
namespace Go.Proofs.YtcbgiabippcpaaaGreatDoor
open Go.Pi
theorem h0F {m:Int} (h:GlOk (glW m)):∀ xs,b4Z (fun _=>[]) 140737488355328 [(false,[.str])] xs→∃ n sg ow,a1Q F (glW m) n 7 (xs.map .t) [] []=some (.t (.bool true),sg,ow) :=
 h0E h rfl
end Go.Proofs.YtcbgiabippcpaaaGreatDoor
