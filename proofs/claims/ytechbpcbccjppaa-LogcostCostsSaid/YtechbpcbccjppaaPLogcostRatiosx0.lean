-- PRINTED BY print.sh 35421559b90ae4d0a3588c463048766b98c2df88dd9212a6774a882060cdf62d: not written by this session
import Derived.Test.YtechbpcbccjppaaProg
import Derived.Below
import Derived.Deep.Draws
import Derived.Deep.AppendLies
import Derived.Maps.AppendAt
import Derived.OwnWalk
import Derived.Laws.BytesArg
import Derived.Laws.MakeOwn
import Derived.Laws.OwnMore
import Derived.Deep.OwnRows
import Derived.Tactics
import Derived.Lib.ConvBytes
import Derived.Laws.Slices
import Derived.WalkKit
import Derived.KernelRfl
import Derived.RowKit3
import Derived.Deep.LoopGhost
import Derived.Deep.QuietTactic
import Derived.BigQuiet
import Derived.WideLaws
import Derived.Deep.DeepCutAuto
import Derived.Deep.CutBlock
import Derived.Deep.RegionHeld3
import Derived.Laws.Rows
import Derived.Lib.AppendStr
import Derived.ArgAppend
import Derived.Laws.IdiomCopy
import Derived.OrdersHeld
import Derived.Laws.BitsLemmas
import Derived.RowKit
import Derived.Test.YtechbpcbccjppaaWWords
import Derived.Test.YtechbpcbccjppaaWLast
import Derived.Test.YtechbpcbccjppaaWTab
import Derived.Test.YtechbpcbccjppaaWFour
import Derived.Test.YtechbpcbccjppaaWQPut
import Derived.Test.YtechbpcbccjppaaWApart
import Derived.Test.YtechbpcbccjppaaWArr
import Derived.Test.YtechbpcbccjppaaWZeros
import Derived.Test.YtechbpcbccjppaaWFoot
import Derived.Test.YtechbpcbccjppaaWKept
import Derived.Test.YtechbpcbccjppaaWShare
import Derived.Test.YtechbpcbccjppaaWN
import Derived.Test.YtechbpcbccjppaaWFootNe
import Derived.Test.YtechbpcbccjppaaWAt
import Derived.Test.YtechbpcbccjppaaWEqStruct
import Derived.Test.YtechbpcbccjppaaWRepsOne
import Derived.Test.YtechbpcbccjppaaWInv
import Derived.Test.YtechbpcbccjppaaWInvWords
import Derived.Test.YtechbpcbccjppaaWGuard
import Derived.Test.YtechbpcbccjppaaWNEv
import Derived.Test.YtechbpcbccjppaaWMore
namespace Go.Proofs.Ytechbpcbccjppaa.PLogcostRatios
open Go.RowKit Go.Proofs.YtechbpcbccjppaaW.PrintWords Go.Proofs.YtechbpcbccjppaaW.PrintLast Go.Proofs.YtechbpcbccjppaaW.PrintMore
attribute [local go_sem] max2_int min2_int max_two min_two max_three min_three max_four min_four   -- for this text's walks alone
set_option linter.unusedVariables false
set_option linter.unusedSimpArgs false



def errW : Option Int → Value
  | none => .nilIface
  | some c => .iface 0 (.int .i64 c)
theorem errW_none : errW none = .nilIface := rfl
theorem errW_some (c : Int) : errW (some c) = .iface 0 (.int .i64 c) := rfl

theorem info3 : (Try.prog.info? 3).map (fun i => (i.zero, i.size, i.bytes)) = some (some (.int .i64 0), 1, 8) := by kernel_rfl
-- the values' own types

end Go.Proofs.Ytechbpcbccjppaa.PLogcostRatios
