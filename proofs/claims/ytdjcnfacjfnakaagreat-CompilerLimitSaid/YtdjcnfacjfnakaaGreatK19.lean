/- Contracts: how much a program holds. -/
import Derived.Test.YtdjcnfacjfnakaaGreatK18
set_option maxRecDepth 10000
set_option linter.unusedVariables false
set_option linter.unusedSimpArgs false
namespace Go.Proofs.YtdjcnfacjfnakaaGreat
open Go.Pi Go.Lx Go.Ky Go.Lib
variable {gl:Nat→Option (List T)}
end Go.Proofs.YtdjcnfacjfnakaaGreat
