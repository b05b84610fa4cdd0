/- The law's arguments, at the seat's variables. -/
import Derived.Test.YtcbgiabippcpaaaGreatDoorZ7
import Derived.Test.YtcbgiabippcpaaaGreatDoorGP
namespace Go.Proofs.YtcbgiabippcpaaaGreatDoor
open Go.Pi
theorem args5 {m : Int} (h : GlOk (glW m)) : ∀ xs, ArgsT (fun _ => []) 140737488355328 [(false, [.str])] xs → ∃ n sg ow, pcall F (glW m) n 5 (xs.map .t) [] [] = some (.t (.bool true), sg, ow) :=
  argx5 h rfl
end Go.Proofs.YtcbgiabippcpaaaGreatDoor
