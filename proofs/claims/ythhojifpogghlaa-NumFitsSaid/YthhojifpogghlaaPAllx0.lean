-- Laid by wip/printx.py, over the print of the kit.
import Derived.Test.YthhojifpogghlaaProg
import Derived.Below
import Derived.Deep.Draws
import Derived.Deep.AppendLies
import Derived.Maps.AppendAt
import Derived.OwnWalk
import Derived.Laws.BytesArg
import Derived.Laws.MakeOwn
import Derived.Laws.OwnMore
import Derived.Deep.OwnRows
import Derived.Tactics
import Derived.Lib.ConvBytes
import Derived.Laws.Slices
import Derived.WalkKit
import Derived.KernelRfl
import Derived.RowKit3
import Derived.Deep.LoopGhost
import Derived.Deep.QuietTactic
import Derived.BigQuiet
import Derived.WideLaws
import Derived.Deep.DeepCutAuto
import Derived.Deep.CutBlock
import Derived.Deep.RegionHeld3
import Derived.Laws.Rows
import Derived.Lib.AppendStr
import Derived.ArgAppend
import Derived.Laws.IdiomCopy
import Derived.OrdersHeld
import Derived.Laws.BitsLemmas
import Derived.RowKit
import Derived.Lib.BitFns
import Derived.Lib.Strings
import Derived.Lib.Slices
import Derived.Lib.Small
import Derived.Lib.Walk
import Derived.Lib.Hide
import Derived.Lib.Mul64
import Derived.Laws.Bits64b
import Derived.Laws.Externs
import Derived.Shelf.Abstract
import Derived.Laws.BitsAllLaws
import Derived.Test.YthhojifpogghlaaWWords
import Derived.Test.YthhojifpogghlaaWLast
import Derived.Test.YthhojifpogghlaaWTab
import Derived.Test.YthhojifpogghlaaWFour
import Derived.Test.YthhojifpogghlaaWQPut
import Derived.Test.YthhojifpogghlaaWApart
import Derived.Test.YthhojifpogghlaaWArr
import Derived.Test.YthhojifpogghlaaWZeros
import Derived.Test.YthhojifpogghlaaWFoot
import Derived.Test.YthhojifpogghlaaWKept
import Derived.Test.YthhojifpogghlaaWShare
import Derived.Test.YthhojifpogghlaaWN
import Derived.Test.YthhojifpogghlaaWFootNe
import Derived.Test.YthhojifpogghlaaWAt
import Derived.Test.YthhojifpogghlaaWEqStruct
import Derived.Test.YthhojifpogghlaaWRepsOne
import Derived.Test.YthhojifpogghlaaWInv
import Derived.Test.YthhojifpogghlaaWInvWords
import Derived.Test.YthhojifpogghlaaWGuard
import Derived.Test.YthhojifpogghlaaWNEv
import Derived.Test.YthhojifpogghlaaWMore
namespace Go.Proofs.Ythhojifpogghlaa.PAll
open Go.RowKit Go.Proofs.YthhojifpogghlaaW.PrintWords Go.Proofs.YthhojifpogghlaaW.PrintLast Go.Proofs.YthhojifpogghlaaW.PrintMore
attribute [local go_sem] max2_int min2_int max_two min_two max_three min_three max_four min_four   -- for this text's walks alone
set_option linter.unusedVariables false
set_option linter.unusedSimpArgs false



def errW : Option Int → Value
  | none => .nilIface
  | some c => .iface 0 (.int .i64 c)
theorem errW_none : errW none = .nilIface := rfl
theorem errW_some (c : Int) : errW (some c) = .iface 0 (.int .i64 c) := rfl

theorem info22 : (Try.prog.info? 22).map (fun i => (i.zero, i.size, i.bytes)) = some (some (.int .u64 0), 1, 8) := by kernel_rfl
-- the values' own types

end Go.Proofs.Ythhojifpogghlaa.PAll
