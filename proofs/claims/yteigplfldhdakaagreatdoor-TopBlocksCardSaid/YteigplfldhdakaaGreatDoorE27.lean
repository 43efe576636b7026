/- Calls reckoned, and awake whole. -/
import Derived.Test.YteigplfldhdakaaGreatDoorE22
import Derived.KernelRfl
import Derived.Test.YteigplfldhdakaaGreatDoorE23
import Derived.Test.YteigplfldhdakaaGreatDoorE24
import Derived.Test.YteigplfldhdakaaGreatDoorE25
import Derived.Test.YteigplfldhdakaaGreatDoorE26
import Derived.Test.YteigplfldhdakaaGreatDoorE13
set_option linter.unusedVariables false
set_option linter.unusedSimpArgs false
namespace Go.Proofs.YteigplfldhdakaaGreatDoor.Ev
open Go Go.Proofs.YteigplfldhdakaaGreatDoor
set_option maxRecDepth 1000000
theorem st19 : stageF Tryz.prog ksT (orcOr (orcCut cut20) orcT) 60 cut19 [0] = true := by kernel_rfl
theorem orc19 {w0 : World} (hT : Tab w0) : Orc Tryz.prog w0 (orcCut cut19) := stageF_orc mixT nameT keyLaw ((orc20 hT).or (orcT_ok hT)) st19
theorem st39 : stageF Tryz.prog ksT (orcT) 60 cut39 [5, 6] = true := by kernel_rfl
theorem orc39 {w0 : World} (hT : Tab w0) : Orc Tryz.prog w0 (orcCut cut39) := stageF_orc mixT nameT keyLaw (orcT_ok hT) st39
theorem st41 : stageF Tryz.prog ksT (orcT) 60 cut41 [5, 6] = true := by kernel_rfl
theorem orc41 {w0 : World} (hT : Tab w0) : Orc Tryz.prog w0 (orcCut cut41) := stageF_orc mixT nameT keyLaw (orcT_ok hT) st41
theorem st16 : stageF Tryz.prog ksT (orcOr (orcCut cut39) (orcOr (orcCut cut40) (orcOr (orcCut cut41) orcT))) 60 cut16 [5, 6] = true := by kernel_rfl
theorem orc16 {w0 : World} (hT : Tab w0) : Orc Tryz.prog w0 (orcCut cut16) := stageF_orc mixT nameT keyLaw ((orc39 hT).or ((orc40 hT).or ((orc41 hT).or (orcT_ok hT)))) st16
theorem st17 : stageF Tryz.prog ksT (orcOr (orcCut cut120) orcT) 60 cut17 [8, 9, 10, 11, 12, 13, 14, 15] = true := by kernel_rfl
theorem orc17 {w0 : World} (hT : Tab w0) : Orc Tryz.prog w0 (orcCut cut17) := stageF_orc mixT nameT keyLaw ((orc120 hT).or (orcT_ok hT)) st17
theorem st7 : stageF Tryz.prog ksT (orcOr (orcCut cut19) (orcOr (orcCut cut34) (orcOr (orcCut cut16) (orcOr (orcCut cut17) orcT)))) 60 cut7 [] = true := by kernel_rfl
theorem orc7 {w0 : World} (hT : Tab w0) : Orc Tryz.prog w0 (orcCut cut7) := stageF_orc mixT nameT keyLaw ((orc19 hT).or ((orc34 hT).or ((orc16 hT).or ((orc17 hT).or (orcT_ok hT))))) st7
theorem awake_c : AwakeC := fun w hT => by
  have hi : Inv w (fun _ => none) ⟨[], 0⟩ w := ⟨⟨fun b o h => (by cases h), List.nodup_nil, fun b b' x y h => (by cases h), fun _ _ => rfl⟩, fun k ⟨_, _, _, _, h⟩ => (by cases h), RowKit.Below.refl _ _⟩
  refine ((orc7 hT).ok 7 [] ⟨[], 0⟩ (.sc (.f (.bool true)), ⟨[], 0⟩) (fun _ => none) w [] hi trivial rfl).mono fun e w' ⟨u, h1, γ', h2, h3, h4⟩ => ?_
  have h4 : u = .bool true := h4
  subst h4
  exact ⟨h1, h3.same.1, h3.same.2.1, h3.same.2.2, h3.size, fun k hk => h3.keep k hk fun ⟨_, _, _, _, h⟩ => by cases h⟩
end Go.Proofs.YteigplfldhdakaaGreatDoor.Ev
