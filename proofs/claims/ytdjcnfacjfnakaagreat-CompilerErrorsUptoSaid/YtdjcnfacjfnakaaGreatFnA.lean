/- The forms are those of the program's functions. -/
import Derived.Test.YtdjcnfacjfnakaaGreatIrA
import Derived.Test.YtdjcnfacjfnakaaGreatProg
import Derived.KernelRfl
set_option linter.unusedSimpArgs false
set_option linter.unusedVariables false
set_option maxRecDepth 10000
namespace Go.Proofs.YtdjcnfacjfnakaaGreat
open Go.Pi
theorem g4C:irs.map (λp=>(Tryz.prog.funcs[p.1]?).bind (a3P Tryz.prog tb))=irs.map (λp=>some p.2):=by kernel_rfl
theorem g4D:∀ p,p∈irs->∃ fn,Tryz.prog.funcs[p.1]?=some fn/\a3P Tryz.prog tb fn=some p.2:=λp hp=>g7C.1 (List.map_inj_left.1 g4C p hp)
end Go.Proofs.YtdjcnfacjfnakaaGreat
