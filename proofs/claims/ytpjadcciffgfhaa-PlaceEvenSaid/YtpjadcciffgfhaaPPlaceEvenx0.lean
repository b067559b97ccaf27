-- Written by fk.py (a program of this session) over the kit's print: functions with a contract of our own among them.
import Derived.Test.YtpjadcciffgfhaaProg
import Derived.Below
import Derived.Deep.Draws
import Derived.Deep.AppendLies
import Derived.Maps.AppendAt
import Derived.OwnWalk
import Derived.Laws.BytesArg
import Derived.Laws.MakeOwn
import Derived.Laws.OwnMore
import Derived.Deep.OwnRows
import Derived.Tactics
import Derived.Lib.ConvBytes
import Derived.Laws.Slices
import Derived.WalkKit
import Derived.KernelRfl
import Derived.RowKit3
import Derived.Deep.LoopGhost
import Derived.Deep.QuietTactic
import Derived.BigQuiet
import Derived.WideLaws
import Derived.Deep.DeepCutAuto
import Derived.Deep.CutBlock
import Derived.Deep.RegionHeld3
import Derived.Laws.Rows
import Derived.Lib.AppendStr
import Derived.ArgAppend
import Derived.Laws.IdiomCopy
import Derived.OrdersHeld
import Derived.Laws.BitsLemmas
import Derived.RowKit
import Derived.Test.YtpjadcciffgfhaaWWords
import Derived.Test.YtpjadcciffgfhaaWLast
import Derived.Test.YtpjadcciffgfhaaWTab
import Derived.Test.YtpjadcciffgfhaaWFour
import Derived.Test.YtpjadcciffgfhaaWQPut
import Derived.Test.YtpjadcciffgfhaaWApart
import Derived.Test.YtpjadcciffgfhaaWArr
import Derived.Test.YtpjadcciffgfhaaWZeros
import Derived.Test.YtpjadcciffgfhaaWFoot
import Derived.Test.YtpjadcciffgfhaaWKept
import Derived.Test.YtpjadcciffgfhaaWShare
import Derived.Test.YtpjadcciffgfhaaWN
import Derived.Test.YtpjadcciffgfhaaWFootNe
import Derived.Test.YtpjadcciffgfhaaWAt
import Derived.Test.YtpjadcciffgfhaaWEqStruct
import Derived.Test.YtpjadcciffgfhaaWRepsOne
import Derived.Test.YtpjadcciffgfhaaWInv
import Derived.Test.YtpjadcciffgfhaaWInvWords
import Derived.Test.YtpjadcciffgfhaaWGuard
import Derived.Test.YtpjadcciffgfhaaWNEv
import Derived.Test.YtpjadcciffgfhaaWMore
namespace Go.Proofs.Ytpjadcciffgfhaa.PPlaceEven
open Go.RowKit Go.Proofs.YtpjadcciffgfhaaW.PrintWords Go.Proofs.YtpjadcciffgfhaaW.PrintLast Go.Proofs.YtpjadcciffgfhaaW.PrintMore
attribute [local go_sem] max2_int min2_int max_two min_two max_three min_three max_four min_four   -- for this text's walks alone
set_option linter.unusedVariables false
set_option linter.unusedSimpArgs false



def errW : Option Int → Value
  | none => .nilIface
  | some c => .iface 0 (.int .i64 c)
theorem errW_none : errW none = .nilIface := rfl
theorem errW_some (c : Int) : errW (some c) = .iface 0 (.int .i64 c) := rfl

theorem info3 : (Try.prog.info? 3).map (fun i => (i.zero, i.size, i.bytes)) = some (some (.int .i64 0), 1, 8) := by kernel_rfl
-- the values' own types

end Go.Proofs.Ytpjadcciffgfhaa.PPlaceEven
