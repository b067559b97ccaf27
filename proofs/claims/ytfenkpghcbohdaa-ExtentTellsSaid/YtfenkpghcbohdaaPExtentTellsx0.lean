-- Written by fk.py (a program of this session) over the kit's print: functions with a contract of our own among them.
import Derived.Test.YtfenkpghcbohdaaCopy
import Derived.Test.YtfenkpghcbohdaaProg
import Derived.Below
import Derived.Deep.Draws
import Derived.Deep.AppendLies
import Derived.Maps.AppendAt
import Derived.OwnWalk
import Derived.Laws.BytesArg
import Derived.Laws.MakeOwn
import Derived.Laws.OwnMore
import Derived.Deep.OwnRows
import Derived.Tactics
import Derived.Lib.ConvBytes
import Derived.Laws.Slices
import Derived.WalkKit
import Derived.KernelRfl
import Derived.RowKit3
import Derived.Deep.LoopGhost
import Derived.Deep.QuietTactic
import Derived.BigQuiet
import Derived.WideLaws
import Derived.Deep.DeepCutAuto
import Derived.Deep.CutBlock
import Derived.Deep.RegionHeld3
import Derived.Laws.Rows
import Derived.Lib.AppendStr
import Derived.ArgAppend
import Derived.Laws.IdiomCopy
import Derived.OrdersHeld
import Derived.Laws.BitsLemmas
import Derived.RowKit
import Derived.Test.YtfenkpghcbohdaaWWords
import Derived.Test.YtfenkpghcbohdaaWLast
import Derived.Test.YtfenkpghcbohdaaWTab
import Derived.Test.YtfenkpghcbohdaaWFour
import Derived.Test.YtfenkpghcbohdaaWQPut
import Derived.Test.YtfenkpghcbohdaaWApart
import Derived.Test.YtfenkpghcbohdaaWArr
import Derived.Test.YtfenkpghcbohdaaWZeros
import Derived.Test.YtfenkpghcbohdaaWFoot
import Derived.Test.YtfenkpghcbohdaaWKept
import Derived.Test.YtfenkpghcbohdaaWShare
import Derived.Test.YtfenkpghcbohdaaWN
import Derived.Test.YtfenkpghcbohdaaWFootNe
import Derived.Test.YtfenkpghcbohdaaWAt
import Derived.Test.YtfenkpghcbohdaaWEqStruct
import Derived.Test.YtfenkpghcbohdaaWRepsOne
import Derived.Test.YtfenkpghcbohdaaWInv
import Derived.Test.YtfenkpghcbohdaaWInvWords
import Derived.Test.YtfenkpghcbohdaaWGuard
import Derived.Test.YtfenkpghcbohdaaWNEv
import Derived.Test.YtfenkpghcbohdaaWMore
namespace Go.Proofs.Ytfenkpghcbohdaa.PExtentTells
open Go.RowKit Go.Proofs.YtfenkpghcbohdaaW.PrintWords Go.Proofs.YtfenkpghcbohdaaW.PrintLast Go.Proofs.YtfenkpghcbohdaaW.PrintMore
attribute [local go_sem] max2_int min2_int max_two min_two max_three min_three max_four min_four   -- for this text's walks alone
set_option linter.unusedVariables false
set_option linter.unusedSimpArgs false



def errW : Option Int → Value
  | none => .nilIface
  | some c => .iface 0 (.int .i64 c)
theorem errW_none : errW none = .nilIface := rfl
theorem errW_some (c : Int) : errW (some c) = .iface 0 (.int .i64 c) := rfl

theorem info3 : (Try.prog.info? 3).map (fun i => (i.zero, i.size, i.bytes)) = some (some (.int .i64 0), 1, 8) := by kernel_rfl
-- the values' own types

end Go.Proofs.Ytfenkpghcbohdaa.PExtentTells
