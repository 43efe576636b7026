/- One call reckoned: block.Pair. -/
import Derived.Test.YteigplfldhdakaaGreatDoorE22
import Derived.KernelRfl
set_option linter.unusedVariables false
set_option linter.unusedSimpArgs false
namespace Go.Proofs.YteigplfldhdakaaGreatDoor.Ev
open Go Go.Proofs.YteigplfldhdakaaGreatDoor
set_option maxRecDepth 1000000
theorem st20 : stageF Tryz.prog ksT (orcT) 60 cut20 [] = true := by kernel_rfl
theorem orc20 {w0 : World} (hT : Tab w0) : Orc Tryz.prog w0 (orcCut cut20) := stageF_orc mixT nameT keyLaw (orcT_ok hT) st20
end Go.Proofs.YteigplfldhdakaaGreatDoor.Ev
