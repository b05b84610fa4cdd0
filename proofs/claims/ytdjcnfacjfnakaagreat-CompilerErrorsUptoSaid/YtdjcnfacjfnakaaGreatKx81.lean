/- KX 81: slices that are put together. -/
import Derived.Test.YtdjcnfacjfnakaaGreatKx80
import Derived.Test.YtdjcnfacjfnakaaGreatKx19
set_option linter.unusedSimpArgs false
set_option linter.unusedVariables false
namespace Go.Ky
open Go.Pi Go.Lx
end Go.Ky
