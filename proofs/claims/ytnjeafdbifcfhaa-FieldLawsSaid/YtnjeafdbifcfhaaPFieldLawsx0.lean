-- Written by fk.py (a program of this session) over the kit's print: functions with a contract of our own among them.
import Derived.Test.YtnjeafdbifcfhaaProg
import Derived.Below
import Derived.Deep.Draws
import Derived.Deep.AppendLies
import Derived.Maps.AppendAt
import Derived.OwnWalk
import Derived.Laws.BytesArg
import Derived.Laws.MakeOwn
import Derived.Laws.OwnMore
import Derived.Deep.OwnRows
import Derived.Tactics
import Derived.Lib.ConvBytes
import Derived.Laws.Slices
import Derived.WalkKit
import Derived.KernelRfl
import Derived.RowKit3
import Derived.Deep.LoopGhost
import Derived.Deep.QuietTactic
import Derived.BigQuiet
import Derived.WideLaws
import Derived.Deep.DeepCutAuto
import Derived.Deep.CutBlock
import Derived.Deep.RegionHeld3
import Derived.Laws.Rows
import Derived.Lib.AppendStr
import Derived.ArgAppend
import Derived.Laws.IdiomCopy
import Derived.OrdersHeld
import Derived.Laws.BitsLemmas
import Derived.RowKit
import Derived.Test.YtnjeafdbifcfhaaWWords
import Derived.Test.YtnjeafdbifcfhaaWLast
import Derived.Test.YtnjeafdbifcfhaaWTab
import Derived.Test.YtnjeafdbifcfhaaWFour
import Derived.Test.YtnjeafdbifcfhaaWQPut
import Derived.Test.YtnjeafdbifcfhaaWApart
import Derived.Test.YtnjeafdbifcfhaaWArr
import Derived.Test.YtnjeafdbifcfhaaWZeros
import Derived.Test.YtnjeafdbifcfhaaWFoot
import Derived.Test.YtnjeafdbifcfhaaWKept
import Derived.Test.YtnjeafdbifcfhaaWShare
import Derived.Test.YtnjeafdbifcfhaaWN
import Derived.Test.YtnjeafdbifcfhaaWFootNe
import Derived.Test.YtnjeafdbifcfhaaWAt
import Derived.Test.YtnjeafdbifcfhaaWEqStruct
import Derived.Test.YtnjeafdbifcfhaaWRepsOne
import Derived.Test.YtnjeafdbifcfhaaWInv
import Derived.Test.YtnjeafdbifcfhaaWInvWords
import Derived.Test.YtnjeafdbifcfhaaWGuard
import Derived.Test.YtnjeafdbifcfhaaWNEv
import Derived.Test.YtnjeafdbifcfhaaWMore
namespace Go.Proofs.Ytnjeafdbifcfhaa.PFieldLaws
open Go.RowKit Go.Proofs.YtnjeafdbifcfhaaW.PrintWords Go.Proofs.YtnjeafdbifcfhaaW.PrintLast Go.Proofs.YtnjeafdbifcfhaaW.PrintMore
attribute [local go_sem] max2_int min2_int max_two min_two max_three min_three max_four min_four   -- for this text's walks alone
set_option linter.unusedVariables false
set_option linter.unusedSimpArgs false



def errW : Option Int → Value
  | none => .nilIface
  | some c => .iface 0 (.int .i64 c)
theorem errW_none : errW none = .nilIface := rfl
theorem errW_some (c : Int) : errW (some c) = .iface 0 (.int .i64 c) := rfl

-- the values' own types

end Go.Proofs.Ytnjeafdbifcfhaa.PFieldLaws
