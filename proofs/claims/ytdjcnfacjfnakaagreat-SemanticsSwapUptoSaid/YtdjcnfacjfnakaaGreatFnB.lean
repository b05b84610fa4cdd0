/- The forms are those of the program's functions. -/
import Derived.Test.YtdjcnfacjfnakaaGreatIrA
import Derived.Test.YtdjcnfacjfnakaaGreatProg
import Derived.KernelRfl
set_option linter.unusedSimpArgs false
set_option linter.unusedVariables false
set_option maxRecDepth 10000
namespace Go.Proofs.YtdjcnfacjfnakaaGreat
open Go.Pi
theorem g2C:irs.map (fun p=>(Tryz.prog.funcs[p.1]?).bind (a4C Tryz.prog tb))=irs.map (fun p=>some p.2):=by kernel_rfl
theorem g2D:∀ p,p∈irs→∃ fn,Tryz.prog.funcs[p.1]?=some fn∧a4C Tryz.prog tb fn=some p.2:=fun p hp=>g5S.1 (List.map_inj_left.1 g2C p hp)
end Go.Proofs.YtdjcnfacjfnakaaGreat

/- The forms are those of the program's functions, by the table without the contract. -/
namespace Go.Proofs.YtdjcnfacjfnakaaGreat
open Go.Pi
def tb0:Tb:=⟨[(10,10),(12,12),(13,13),(14,14),(16,16),(18,18),(19,19),(20,20),(21,21),(23,23),(26,26),(32,32),(35,35),(36,36),(37,37),(38,38),(39,39),(40,40),(41,41),(42,42),(43,43),(44,44),(45,45),(46,46),(47,47),(49,49),(50,50),(52,52),(53,53),(55,55),(61,61),(62,62),(63,63),(64,64),(65,65),(66,66),(67,67),(68,68),(69,69),(70,70),(71,71),(72,72),(73,73),(74,74),(75,75),(76,76),(77,77),(78,78),(79,79),(80,80),(81,81),(82,82),(83,83),(84,84),(95,95),(96,96),(97,97),(98,98),(99,99),(100,100),(101,101),(102,102),(103,103),(104,104),(105,105),(106,106),(107,107),(108,108),(109,109),(110,110),(111,111),(112,112),(113,113),(114,114),(115,115),(116,116),(117,117),(118,118),(119,119),(139,139),(140,140),(141,141),(142,142),(143,143),(144,144),(145,145),(146,146),(147,147),(148,148),(149,149),(150,150),(151,151),(152,152),(153,153),(154,154),(155,155),(156,156),(157,157),(158,158),(159,159),(160,160),(161,161),(162,162),(163,163),(164,164),(165,165),(178,178),(179,179),(180,180),(181,181),(182,182),(183,183),(184,184),(185,185),(186,186),(187,187),(188,188),(189,189),(190,190),(191,191),(192,192),(193,193),(194,194),(195,195),(196,196),(197,197),(198,198),(199,199),(200,200),(201,201),(206,206),(207,207),(208,208),(209,209),(210,210),(211,211),(212,212),(213,213),(214,214),(217,217),(218,218)],[62,80,82,84,95,97,99,103,104,105,106,107,108,113,114,116,119,140,149,150,152,179,183,185,187,189,190,192,194,208],[(0,215)],[127],none,[118],[150],false⟩
theorem g2E:(irs.filter fun p=>p.1 != 6&&p.1 != 17).map (fun p=>(Tryz.prog.funcs[p.1]?).bind (a4C Tryz.prog tb0))=(irs.filter fun p=>p.1 != 6&&p.1 != 17).map (fun p=>some p.2):=by kernel_rfl
theorem g2F:∀ p,p∈irs→p.1≠6→p.1≠17→∃ fn,Tryz.prog.funcs[p.1]?=some fn∧a4C Tryz.prog tb0 fn=some p.2:=fun p hp n6 n17=>g5S.1 (List.map_inj_left.1 g2E p (g4W.2 ⟨hp,by simp [n6,n17]⟩))
end Go.Proofs.YtdjcnfacjfnakaaGreat
