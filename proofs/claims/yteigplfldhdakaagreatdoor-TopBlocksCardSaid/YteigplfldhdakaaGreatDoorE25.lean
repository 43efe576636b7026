/- Calls reckoned: the graph of the words. -/
import Derived.Test.YteigplfldhdakaaGreatDoorE22
import Derived.KernelRfl
set_option linter.unusedVariables false
set_option linter.unusedSimpArgs false
namespace Go.Proofs.YteigplfldhdakaaGreatDoor.Ev
open Go Go.Proofs.YteigplfldhdakaaGreatDoor
set_option maxRecDepth 1000000
theorem st70 : stageF Tryz.prog ksT (orcT) 60 cut70 [90, 6, 88, 89] = true := by kernel_rfl
theorem orc70 {w0 : World} (hT : Tab w0) : Orc Tryz.prog w0 (orcCut cut70) := stageF_orc mixT nameT keyLaw (orcT_ok hT) st70
theorem st40 : stageF Tryz.prog ksT (orcOr (orcCut cut70) orcT) 60 cut40 [6] = true := by kernel_rfl
theorem orc40 {w0 : World} (hT : Tab w0) : Orc Tryz.prog w0 (orcCut cut40) := stageF_orc mixT nameT keyLaw ((orc70 hT).or (orcT_ok hT)) st40
end Go.Proofs.YteigplfldhdakaaGreatDoor.Ev
