-- Written for this claim by wip/hook.py, by means of the kit's print and of hand-proved contracts.
import Derived.Test.YtdaeflafdnlceaaProg
import Derived.Below
import Derived.Deep.Draws
import Derived.Deep.AppendLies
import Derived.Maps.AppendAt
import Derived.OwnWalk
import Derived.Laws.BytesArg
import Derived.Laws.MakeOwn
import Derived.Laws.OwnMore
import Derived.Deep.OwnRows
import Derived.Tactics
import Derived.Lib.ConvBytes
import Derived.Laws.Slices
import Derived.WalkKit
import Derived.KernelRfl
import Derived.RowKit3
import Derived.Deep.LoopGhost
import Derived.Deep.QuietTactic
import Derived.BigQuiet
import Derived.WideLaws
import Derived.Deep.DeepCutAuto
import Derived.Deep.CutBlock
import Derived.Deep.RegionHeld3
import Derived.Laws.Rows
import Derived.Lib.AppendStr
import Derived.ArgAppend
import Derived.Laws.IdiomCopy
import Derived.OrdersHeld
import Derived.Laws.BitsLemmas
import Derived.RowKit
import Derived.Laws.CopyOwn
import Derived.Test.YtdaeflafdnlceaaCopy
import Derived.Test.YtdaeflafdnlceaaWWords
import Derived.Test.YtdaeflafdnlceaaWLast
import Derived.Test.YtdaeflafdnlceaaWTab
import Derived.Test.YtdaeflafdnlceaaWFour
import Derived.Test.YtdaeflafdnlceaaWQPut
import Derived.Test.YtdaeflafdnlceaaWApart
import Derived.Test.YtdaeflafdnlceaaWArr
import Derived.Test.YtdaeflafdnlceaaWZeros
import Derived.Test.YtdaeflafdnlceaaWFoot
import Derived.Test.YtdaeflafdnlceaaWKept
import Derived.Test.YtdaeflafdnlceaaWShare
import Derived.Test.YtdaeflafdnlceaaWN
import Derived.Test.YtdaeflafdnlceaaWFootNe
import Derived.Test.YtdaeflafdnlceaaWAt
import Derived.Test.YtdaeflafdnlceaaWEqStruct
import Derived.Test.YtdaeflafdnlceaaWRepsOne
import Derived.Test.YtdaeflafdnlceaaWInv
import Derived.Test.YtdaeflafdnlceaaWInvWords
import Derived.Test.YtdaeflafdnlceaaWGuard
import Derived.Test.YtdaeflafdnlceaaWNEv
import Derived.Test.YtdaeflafdnlceaaWMore
namespace Go.Proofs.Ytdaeflafdnlceaa.HMemoryOrders
open Go.RowKit Go.Proofs.YtdaeflafdnlceaaW.PrintWords Go.Proofs.YtdaeflafdnlceaaW.PrintLast Go.Proofs.YtdaeflafdnlceaaW.PrintMore
attribute [local go_sem] max2_int min2_int max_two min_two max_three min_three max_four min_four   -- for this text's walks alone
set_option linter.unusedVariables false
set_option linter.unusedSimpArgs false



def errW : Option Int → Value
  | none => .nilIface
  | some c => .iface 0 (.int .i64 c)
theorem errW_none : errW none = .nilIface := rfl
theorem errW_some (c : Int) : errW (some c) = .iface 0 (.int .i64 c) := rfl

theorem info24 : (Try.prog.info? 24).map (fun i => (i.zero, i.size, i.bytes)) = some (some (.int .u32 0), 1, 4) := by kernel_rfl
-- the values' own types

end Go.Proofs.Ytdaeflafdnlceaa.HMemoryOrders
