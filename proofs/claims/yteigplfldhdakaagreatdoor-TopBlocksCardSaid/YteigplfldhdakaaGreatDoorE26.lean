/- Calls reckoned: the search. -/
import Derived.Test.YteigplfldhdakaaGreatDoorE22
import Derived.KernelRfl
set_option linter.unusedVariables false
set_option linter.unusedSimpArgs false
namespace Go.Proofs.YteigplfldhdakaaGreatDoor.Ev
open Go Go.Proofs.YteigplfldhdakaaGreatDoor
set_option maxRecDepth 1000000
theorem st203 : stageF Tryz.prog ksT (orcT) 60 cut203 [9] = true := by kernel_rfl
theorem orc203 {w0 : World} (hT : Tab w0) : Orc Tryz.prog w0 (orcCut cut203) := stageF_orc mixT nameT keyLaw (orcT_ok hT) st203
theorem st204 : stageF Tryz.prog ksT (orcT) 60 cut204 [204, 205, 206, 207, 208, 209] = true := by kernel_rfl
theorem orc204 {w0 : World} (hT : Tab w0) : Orc Tryz.prog w0 (orcCut cut204) := stageF_orc mixT nameT keyLaw (orcT_ok hT) st204
theorem st120 : stageF Tryz.prog ksT (orcOr (orcCut cut203) (orcOr (orcCut cut204) orcT)) 60 cut120 [11, 9, 12, 13, 14, 15] = true := by kernel_rfl
theorem orc120 {w0 : World} (hT : Tab w0) : Orc Tryz.prog w0 (orcCut cut120) := stageF_orc mixT nameT keyLaw ((orc203 hT).or ((orc204 hT).or (orcT_ok hT))) st120
end Go.Proofs.YteigplfldhdakaaGreatDoor.Ev
