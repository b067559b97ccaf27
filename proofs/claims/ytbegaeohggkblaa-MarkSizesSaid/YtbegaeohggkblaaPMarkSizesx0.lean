-- Written by fk.py (a program of this session) over the kit's print: functions with a contract of our own among them.
import Derived.Test.YtbegaeohggkblaaCopy
import Derived.Test.YtbegaeohggkblaaProg
import Derived.Below
import Derived.Deep.Draws
import Derived.Deep.AppendLies
import Derived.Maps.AppendAt
import Derived.OwnWalk
import Derived.Laws.BytesArg
import Derived.Laws.MakeOwn
import Derived.Laws.OwnMore
import Derived.Deep.OwnRows
import Derived.Tactics
import Derived.Lib.ConvBytes
import Derived.Laws.Slices
import Derived.WalkKit
import Derived.KernelRfl
import Derived.RowKit3
import Derived.Deep.LoopGhost
import Derived.Deep.QuietTactic
import Derived.BigQuiet
import Derived.WideLaws
import Derived.Deep.DeepCutAuto
import Derived.Deep.CutBlock
import Derived.Deep.RegionHeld3
import Derived.Laws.Rows
import Derived.Lib.AppendStr
import Derived.ArgAppend
import Derived.Laws.IdiomCopy
import Derived.OrdersHeld
import Derived.Laws.BitsLemmas
import Derived.RowKit
import Derived.Test.YtbegaeohggkblaaWWords
import Derived.Test.YtbegaeohggkblaaWLast
import Derived.Test.YtbegaeohggkblaaWTab
import Derived.Test.YtbegaeohggkblaaWFour
import Derived.Test.YtbegaeohggkblaaWQPut
import Derived.Test.YtbegaeohggkblaaWApart
import Derived.Test.YtbegaeohggkblaaWArr
import Derived.Test.YtbegaeohggkblaaWZeros
import Derived.Test.YtbegaeohggkblaaWFoot
import Derived.Test.YtbegaeohggkblaaWKept
import Derived.Test.YtbegaeohggkblaaWShare
import Derived.Test.YtbegaeohggkblaaWN
import Derived.Test.YtbegaeohggkblaaWFootNe
import Derived.Test.YtbegaeohggkblaaWAt
import Derived.Test.YtbegaeohggkblaaWEqStruct
import Derived.Test.YtbegaeohggkblaaWRepsOne
import Derived.Test.YtbegaeohggkblaaWInv
import Derived.Test.YtbegaeohggkblaaWInvWords
import Derived.Test.YtbegaeohggkblaaWGuard
import Derived.Test.YtbegaeohggkblaaWNEv
import Derived.Test.YtbegaeohggkblaaWMore
namespace Go.Proofs.Ytbegaeohggkblaa.PMarkSizes
open Go.RowKit Go.Proofs.YtbegaeohggkblaaW.PrintWords Go.Proofs.YtbegaeohggkblaaW.PrintLast Go.Proofs.YtbegaeohggkblaaW.PrintMore
attribute [local go_sem] max2_int min2_int max_two min_two max_three min_three max_four min_four   -- for this text's walks alone
set_option linter.unusedVariables false
set_option linter.unusedSimpArgs false



def errW : Option Int → Value
  | none => .nilIface
  | some c => .iface 0 (.int .i64 c)
theorem errW_none : errW none = .nilIface := rfl
theorem errW_some (c : Int) : errW (some c) = .iface 0 (.int .i64 c) := rfl

theorem info5 : (Try.prog.info? 5).map (fun i => (i.zero, i.size, i.bytes)) = some (some (.int .u8 0), 1, 1) := by kernel_rfl
-- the values' own types

end Go.Proofs.Ytbegaeohggkblaa.PMarkSizes
