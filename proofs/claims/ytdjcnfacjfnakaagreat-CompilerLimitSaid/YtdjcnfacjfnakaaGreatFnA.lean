/- The forms are those of the program's functions. -/
import Derived.Test.YtdjcnfacjfnakaaGreatIrA
import Derived.Test.YtdjcnfacjfnakaaGreatProg
import Derived.KernelRfl
set_option linter.unusedSimpArgs false
set_option linter.unusedVariables false
set_option maxRecDepth 10000
namespace Go.Proofs.YtdjcnfacjfnakaaGreat
open Go.Pi
theorem g1X:irs.map (fun p=>(Tryz.prog.funcs[p.1]?).bind (a4D Tryz.prog tb))=irs.map (fun p=>some p.2):=by kernel_rfl
theorem g1Y:∀ p,p∈irs→∃ fn,Tryz.prog.funcs[p.1]?=some fn∧a4D Tryz.prog tb fn=some p.2:=fun p hp=>g5C.1 (List.map_inj_left.1 g1X p hp)
end Go.Proofs.YtdjcnfacjfnakaaGreat
