-- Written for this claim by wip/hook.py, by means of the kit's print and of hand-proved contracts.
import Derived.Test.YtbijkhoeaddemaaProg
import Derived.Below
import Derived.Deep.Draws
import Derived.Deep.AppendLies
import Derived.Maps.AppendAt
import Derived.OwnWalk
import Derived.Laws.BytesArg
import Derived.Laws.MakeOwn
import Derived.Laws.OwnMore
import Derived.Deep.OwnRows
import Derived.Tactics
import Derived.Lib.ConvBytes
import Derived.Laws.Slices
import Derived.WalkKit
import Derived.KernelRfl
import Derived.RowKit3
import Derived.Deep.LoopGhost
import Derived.Deep.QuietTactic
import Derived.BigQuiet
import Derived.WideLaws
import Derived.Deep.DeepCutAuto
import Derived.Deep.CutBlock
import Derived.Deep.RegionHeld3
import Derived.Laws.Rows
import Derived.Lib.AppendStr
import Derived.ArgAppend
import Derived.Laws.IdiomCopy
import Derived.OrdersHeld
import Derived.Laws.BitsLemmas
import Derived.RowKit
import Derived.Laws.CopyOwn
import Derived.Test.YtbijkhoeaddemaaCopy
import Derived.Test.YtbijkhoeaddemaaWWords
import Derived.Test.YtbijkhoeaddemaaWLast
import Derived.Test.YtbijkhoeaddemaaWTab
import Derived.Test.YtbijkhoeaddemaaWFour
import Derived.Test.YtbijkhoeaddemaaWQPut
import Derived.Test.YtbijkhoeaddemaaWApart
import Derived.Test.YtbijkhoeaddemaaWArr
import Derived.Test.YtbijkhoeaddemaaWZeros
import Derived.Test.YtbijkhoeaddemaaWFoot
import Derived.Test.YtbijkhoeaddemaaWKept
import Derived.Test.YtbijkhoeaddemaaWShare
import Derived.Test.YtbijkhoeaddemaaWN
import Derived.Test.YtbijkhoeaddemaaWFootNe
import Derived.Test.YtbijkhoeaddemaaWAt
import Derived.Test.YtbijkhoeaddemaaWEqStruct
import Derived.Test.YtbijkhoeaddemaaWRepsOne
import Derived.Test.YtbijkhoeaddemaaWInv
import Derived.Test.YtbijkhoeaddemaaWInvWords
import Derived.Test.YtbijkhoeaddemaaWGuard
import Derived.Test.YtbijkhoeaddemaaWNEv
import Derived.Test.YtbijkhoeaddemaaWMore
namespace Go.Proofs.Ytbijkhoeaddemaa.HPagingLeads
open Go.RowKit Go.Proofs.YtbijkhoeaddemaaW.PrintWords Go.Proofs.YtbijkhoeaddemaaW.PrintLast Go.Proofs.YtbijkhoeaddemaaW.PrintMore
attribute [local go_sem] max2_int min2_int max_two min_two max_three min_three max_four min_four   -- for this text's walks alone
attribute [local go_sem] Instr.field asAgg
set_option linter.unusedVariables false
set_option linter.unusedSimpArgs false



def errW : Option Int → Value
  | none => .nilIface
  | some c => .iface 0 (.int .i64 c)
theorem errW_none : errW none = .nilIface := rfl
theorem errW_some (c : Int) : errW (some c) = .iface 0 (.int .i64 c) := rfl

theorem info23 : (Try.prog.info? 23).map (fun i => (i.zero, i.size, i.bytes)) = some (some (.int .u32 0), 1, 4) := by kernel_rfl
-- the values' own types

end Go.Proofs.Ytbijkhoeaddemaa.HPagingLeads
