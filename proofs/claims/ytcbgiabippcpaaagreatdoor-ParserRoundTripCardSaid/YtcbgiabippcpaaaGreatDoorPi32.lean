/- PI 32: integers: masks, shifts, the arithmetic of math/bits.Mul64 and Div64. Program independent. -/
import Derived.Test.YtcbgiabippcpaaaGreatDoorPi31
import Derived.Lib.Mul64
set_option linter.unusedSimpArgs false
set_option linter.unusedVariables false
namespace Go.Pi
end Go.Pi
