/-
  No cell of these rows narrows 'for every input' (looked for: loops, veiled, ifaces, maps, wideKeys, modest, calm, conditions, laid).
  DERIVED. THE GIVEN ROWS OF THIS SEAT. 7 by the template 'for every input the law returns true; each argument reads behind the call as it read before'; 0 by the template 'total and deterministic' (their statements: YtechbpcbccjppaaTotals.lean).
  GIVEN WITH THE SEED: the statements are not yours to turn. If you find one false, say at which input.
  Laid BY PROGRAM, IN A SANDBOX (cutbox-rows.mjs): the forced cells as the released guide's own fill.sh prints them over the translation 5d4cd30698b368ed… (all of the seat's roots in one cut). By AI agents, Wed Nov 11 2026. No macro, syntax, notation, axiom, sorry.
-/
import Derived.Test.YtechbpcbccjppaaChecked
import GoSem.Claim
import GoSem.ClaimJoined
import GoSem.ClaimMapViews
import Derived.JoinedTies
import Derived.KernelRfl
namespace Go.Proofs.Ytechbpcbccjppaa
/- THE CELL 'sum', in the pinned program and in every row, IS THE sha256 OF THE DUMP (.gsa) THAT YtechbpcbccjppaaProg.lean LOADS. Nothing in Lean hashes anything: it is a label: what it is worth is what the hold of that sum in a sandbox is worth. -/
noncomputable def Try.pinned : Pinned := { name := "ytechbpcbccjppaa", sum := "5d4cd30698b368ed935f976d893f430fdf066706a2744cb3a64750d9b17cd78c", checked := Try.checked }
namespace Rows
def none {H : Type} : Left H := { results := [], args := [] }

/-- 'erratalaw03.LogcostRatios': WHATEVER THE INPUT: true; the input reads as it did. -/
def logcostRatiosSpec : ChangeSpec := { name := "logcostRatios", fn := fun _ => fun
  | [d1, d2] => { results := [.lit (.bool true)], args := [d1, d2] }
  | _ => none }
def logcostRatiosRow : OpenClaim := { program := "ytechbpcbccjppaa", sum := "5d4cd30698b368ed935f976d893f430fdf066706a2744cb3a64750d9b17cd78c", func := "errata/erratalaw03.LogcostRatios", spec := "logcostRatios", inPlace := ["math/bits.Add64"], apart := false }
def LogcostRatiosSaid : Prop := logcostRatiosRow.holds Try.pinned (OpenSpec.ofChange logcostRatiosSpec)

/-- ITS FALSE NEIGHBOUR: 'it returns false'. Refute it at one input. -/
def logcostRatiosWrong : ChangeSpec := { name := "logcostRatios", fn := fun _ => fun
  | [d1, d2] => { results := [.lit (.bool false)], args := [d1, d2] }
  | _ => none }
def LogcostRatiosWrongFalsely : Prop := logcostRatiosRow.holds Try.pinned (OpenSpec.ofChange logcostRatiosWrong)

/-- 'erratalaw03.LogcostDoubles': WHATEVER THE INPUT: true; the input reads as it did. -/
def logcostDoublesSpec : ChangeSpec := { name := "logcostDoubles", fn := fun _ => fun
  | [d1, d2, d3] => { results := [.lit (.bool true)], args := [d1, d2, d3] }
  | _ => none }
def logcostDoublesRow : OpenClaim := { program := "ytechbpcbccjppaa", sum := "5d4cd30698b368ed935f976d893f430fdf066706a2744cb3a64750d9b17cd78c", func := "errata/erratalaw03.LogcostDoubles", spec := "logcostDoubles", inPlace := ["math/bits.Add64"], apart := false }
def LogcostDoublesSaid : Prop := logcostDoublesRow.holds Try.pinned (OpenSpec.ofChange logcostDoublesSpec)

/-- ITS FALSE NEIGHBOUR: 'it returns false'. Refute it at one input. -/
def logcostDoublesWrong : ChangeSpec := { name := "logcostDoubles", fn := fun _ => fun
  | [d1, d2, d3] => { results := [.lit (.bool false)], args := [d1, d2, d3] }
  | _ => none }
def LogcostDoublesWrongFalsely : Prop := logcostDoublesRow.holds Try.pinned (OpenSpec.ofChange logcostDoublesWrong)

/-- 'erratalaw03.LogcostParts': WHATEVER THE INPUT: true; the input reads as it did. -/
def logcostPartsSpec : ChangeSpec := { name := "logcostParts", fn := fun _ => fun
  | [d1, d2, d3] => { results := [.lit (.bool true)], args := [d1, d2, d3] }
  | _ => none }
def logcostPartsRow : OpenClaim := { program := "ytechbpcbccjppaa", sum := "5d4cd30698b368ed935f976d893f430fdf066706a2744cb3a64750d9b17cd78c", func := "errata/erratalaw03.LogcostParts", spec := "logcostParts", inPlace := ["math/bits.Add64"], apart := false }
def LogcostPartsSaid : Prop := logcostPartsRow.holds Try.pinned (OpenSpec.ofChange logcostPartsSpec)

/-- ITS FALSE NEIGHBOUR: 'it returns false'. Refute it at one input. -/
def logcostPartsWrong : ChangeSpec := { name := "logcostParts", fn := fun _ => fun
  | [d1, d2, d3] => { results := [.lit (.bool false)], args := [d1, d2, d3] }
  | _ => none }
def LogcostPartsWrongFalsely : Prop := logcostPartsRow.holds Try.pinned (OpenSpec.ofChange logcostPartsWrong)

/-- 'erratalaw03.LogcostOften': WHATEVER THE INPUT: true; the input reads as it did. -/
def logcostOftenSpec : ChangeSpec := { name := "logcostOften", fn := fun _ => fun
  | [d] => { results := [.lit (.bool true)], args := [d] }
  | _ => none }
def logcostOftenRow : OpenClaim := { program := "ytechbpcbccjppaa", sum := "5d4cd30698b368ed935f976d893f430fdf066706a2744cb3a64750d9b17cd78c", func := "errata/erratalaw03.LogcostOften", spec := "logcostOften", inPlace := ["math/bits.Add64"], apart := false }
def LogcostOftenSaid : Prop := logcostOftenRow.holds Try.pinned (OpenSpec.ofChange logcostOftenSpec)

/-- ITS FALSE NEIGHBOUR: 'it returns false'. Refute it at one input. -/
def logcostOftenWrong : ChangeSpec := { name := "logcostOften", fn := fun _ => fun
  | [d] => { results := [.lit (.bool false)], args := [d] }
  | _ => none }
def LogcostOftenWrongFalsely : Prop := logcostOftenRow.holds Try.pinned (OpenSpec.ofChange logcostOftenWrong)

/-- 'erratalaw03.LogcostNext': WHATEVER THE INPUT: true; the input reads as it did. -/
def logcostNextSpec : ChangeSpec := { name := "logcostNext", fn := fun _ => fun
  | [d1, d2] => { results := [.lit (.bool true)], args := [d1, d2] }
  | _ => none }
def logcostNextRow : OpenClaim := { program := "ytechbpcbccjppaa", sum := "5d4cd30698b368ed935f976d893f430fdf066706a2744cb3a64750d9b17cd78c", func := "errata/erratalaw03.LogcostNext", spec := "logcostNext", inPlace := ["math/bits.Add64"], apart := false }
def LogcostNextSaid : Prop := logcostNextRow.holds Try.pinned (OpenSpec.ofChange logcostNextSpec)

/-- ITS FALSE NEIGHBOUR: 'it returns false'. Refute it at one input. -/
def logcostNextWrong : ChangeSpec := { name := "logcostNext", fn := fun _ => fun
  | [d1, d2] => { results := [.lit (.bool false)], args := [d1, d2] }
  | _ => none }
def LogcostNextWrongFalsely : Prop := logcostNextRow.holds Try.pinned (OpenSpec.ofChange logcostNextWrong)

/-- 'erratalaw03.LogcostCosts': WHATEVER THE INPUT: true; the input reads as it did. -/
def logcostCostsSpec : ChangeSpec := { name := "logcostCosts", fn := fun _ => fun
  | [d] => { results := [.lit (.bool true)], args := [d] }
  | _ => none }
def logcostCostsRow : OpenClaim := { program := "ytechbpcbccjppaa", sum := "5d4cd30698b368ed935f976d893f430fdf066706a2744cb3a64750d9b17cd78c", func := "errata/erratalaw03.LogcostCosts", spec := "logcostCosts", inPlace := ["math/bits.Add64"], apart := false }
def LogcostCostsSaid : Prop := logcostCostsRow.holds Try.pinned (OpenSpec.ofChange logcostCostsSpec)

/-- ITS FALSE NEIGHBOUR: 'it returns false'. Refute it at one input. -/
def logcostCostsWrong : ChangeSpec := { name := "logcostCosts", fn := fun _ => fun
  | [d] => { results := [.lit (.bool false)], args := [d] }
  | _ => none }
def LogcostCostsWrongFalsely : Prop := logcostCostsRow.holds Try.pinned (OpenSpec.ofChange logcostCostsWrong)

/-- 'erratalaw03.LogcostSums': WHATEVER THE INPUT: true; the input reads as it did. -/
def logcostSumsSpec : ChangeSpec := { name := "logcostSums", fn := fun _ => fun
  | [d1, d2, d3] => { results := [.lit (.bool true)], args := [d1, d2, d3] }
  | _ => none }
def logcostSumsRow : OpenClaim := { program := "ytechbpcbccjppaa", sum := "5d4cd30698b368ed935f976d893f430fdf066706a2744cb3a64750d9b17cd78c", func := "errata/erratalaw03.LogcostSums", spec := "logcostSums", inPlace := ["math/bits.Add64"], apart := false }
def LogcostSumsSaid : Prop := logcostSumsRow.holds Try.pinned (OpenSpec.ofChange logcostSumsSpec)

/-- ITS FALSE NEIGHBOUR: 'it returns false'. Refute it at one input. -/
def logcostSumsWrong : ChangeSpec := { name := "logcostSums", fn := fun _ => fun
  | [d1, d2, d3] => { results := [.lit (.bool false)], args := [d1, d2, d3] }
  | _ => none }
def LogcostSumsWrongFalsely : Prop := logcostSumsRow.holds Try.pinned (OpenSpec.ofChange logcostSumsWrong)

/- THE SECOND FORM. 'bulk': how many values and letters a reading holds, each counted each time it is reached (what is shared counts as often as it is met; a slice's spare places count too). A statement '..UptoSaid' is the law's where the arguments, and the package variables that the reading takes, are together of bulk at most 1048576: NARROWER than '..Said'. Prove '..Said' where nothing that the law and all that it calls make is longer than what came in: it says more and counts as full. Else prove '..UptoSaid'. A law counts once. -/
mutual
def uptoBulk {H : Type} : DataW H → Nat
  | .lit (.string bytes) => bytes.length + 1
  | .lit _ => 1
  | .nil => 1
  | .ptr d => uptoBulk d + 1
  | .slice elems spare => uptoBulkAll elems + uptoBulkAll spare + 1
  | .agg parts => uptoBulkAll parts + 1
  | .iface _ d => uptoBulk d + 1
  | .map entries => uptoBulkEntries entries + 1
  | .held _ => 1
def uptoBulkAll {H : Type} : List (DataW H) → Nat
  | [] => 0
  | d :: r => uptoBulk d + uptoBulkAll r
def uptoBulkEntries {H : Type} : List (Lit × DataW H) → Nat
  | [] => 0
  | x :: r => uptoBulkEntry x + uptoBulkEntries r
def uptoBulkEntry {H : Type} : Lit × DataW H → Nat
  | (.string bytes, d) => bytes.length + uptoBulk d + 1
  | (_, d) => uptoBulk d + 1
 end
def uptoSmall : (H : Type) → List (DataW H) → Bool := fun _ ds => decide (uptoBulkAll ds ≤ 1048576)
def OpenSpec.upto (s : _root_.Go.ChangeSpec) : _root_.Go.OpenSpec := { _root_.Go.OpenSpec.ofChange s with cond := some uptoSmall }

/-- 'erratalaw03.LogcostRatios', WHERE WHAT IT READS IS OF BULK AT MOST 1048576: true; the input reads as it did. -/
def logcostRatiosUptoRow : OpenClaim := { program := "ytechbpcbccjppaa", sum := "5d4cd30698b368ed935f976d893f430fdf066706a2744cb3a64750d9b17cd78c", func := "errata/erratalaw03.LogcostRatios", spec := "logcostRatios", inPlace := ["math/bits.Add64"], apart := false, narrowed := true }
def LogcostRatiosUptoSaid : Prop := logcostRatiosUptoRow.holds Try.pinned (OpenSpec.upto logcostRatiosSpec)

/-- 'erratalaw03.LogcostDoubles', WHERE WHAT IT READS IS OF BULK AT MOST 1048576: true; the input reads as it did. -/
def logcostDoublesUptoRow : OpenClaim := { program := "ytechbpcbccjppaa", sum := "5d4cd30698b368ed935f976d893f430fdf066706a2744cb3a64750d9b17cd78c", func := "errata/erratalaw03.LogcostDoubles", spec := "logcostDoubles", inPlace := ["math/bits.Add64"], apart := false, narrowed := true }
def LogcostDoublesUptoSaid : Prop := logcostDoublesUptoRow.holds Try.pinned (OpenSpec.upto logcostDoublesSpec)

/-- 'erratalaw03.LogcostParts', WHERE WHAT IT READS IS OF BULK AT MOST 1048576: true; the input reads as it did. -/
def logcostPartsUptoRow : OpenClaim := { program := "ytechbpcbccjppaa", sum := "5d4cd30698b368ed935f976d893f430fdf066706a2744cb3a64750d9b17cd78c", func := "errata/erratalaw03.LogcostParts", spec := "logcostParts", inPlace := ["math/bits.Add64"], apart := false, narrowed := true }
def LogcostPartsUptoSaid : Prop := logcostPartsUptoRow.holds Try.pinned (OpenSpec.upto logcostPartsSpec)

/-- 'erratalaw03.LogcostOften', WHERE WHAT IT READS IS OF BULK AT MOST 1048576: true; the input reads as it did. -/
def logcostOftenUptoRow : OpenClaim := { program := "ytechbpcbccjppaa", sum := "5d4cd30698b368ed935f976d893f430fdf066706a2744cb3a64750d9b17cd78c", func := "errata/erratalaw03.LogcostOften", spec := "logcostOften", inPlace := ["math/bits.Add64"], apart := false, narrowed := true }
def LogcostOftenUptoSaid : Prop := logcostOftenUptoRow.holds Try.pinned (OpenSpec.upto logcostOftenSpec)

/-- 'erratalaw03.LogcostNext', WHERE WHAT IT READS IS OF BULK AT MOST 1048576: true; the input reads as it did. -/
def logcostNextUptoRow : OpenClaim := { program := "ytechbpcbccjppaa", sum := "5d4cd30698b368ed935f976d893f430fdf066706a2744cb3a64750d9b17cd78c", func := "errata/erratalaw03.LogcostNext", spec := "logcostNext", inPlace := ["math/bits.Add64"], apart := false, narrowed := true }
def LogcostNextUptoSaid : Prop := logcostNextUptoRow.holds Try.pinned (OpenSpec.upto logcostNextSpec)

/-- 'erratalaw03.LogcostCosts', WHERE WHAT IT READS IS OF BULK AT MOST 1048576: true; the input reads as it did. -/
def logcostCostsUptoRow : OpenClaim := { program := "ytechbpcbccjppaa", sum := "5d4cd30698b368ed935f976d893f430fdf066706a2744cb3a64750d9b17cd78c", func := "errata/erratalaw03.LogcostCosts", spec := "logcostCosts", inPlace := ["math/bits.Add64"], apart := false, narrowed := true }
def LogcostCostsUptoSaid : Prop := logcostCostsUptoRow.holds Try.pinned (OpenSpec.upto logcostCostsSpec)

/-- 'erratalaw03.LogcostSums', WHERE WHAT IT READS IS OF BULK AT MOST 1048576: true; the input reads as it did. -/
def logcostSumsUptoRow : OpenClaim := { program := "ytechbpcbccjppaa", sum := "5d4cd30698b368ed935f976d893f430fdf066706a2744cb3a64750d9b17cd78c", func := "errata/erratalaw03.LogcostSums", spec := "logcostSums", inPlace := ["math/bits.Add64"], apart := false, narrowed := true }
def LogcostSumsUptoSaid : Prop := logcostSumsUptoRow.holds Try.pinned (OpenSpec.upto logcostSumsSpec)

end Rows
end Go.Proofs.Ytechbpcbccjppaa
