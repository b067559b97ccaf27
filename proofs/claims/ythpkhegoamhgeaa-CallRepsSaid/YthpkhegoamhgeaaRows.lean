/-
  No cell of these rows narrows 'for every input' (looked for: loops, veiled, ifaces, maps, wideKeys, modest, calm, conditions, laid).
  DERIVED. THE GIVEN ROWS OF THIS SEAT. 9 by the template 'for every input the law returns true; each argument reads behind the call as it read before'; 0 by the template 'total and deterministic' (their statements: YthpkhegoamhgeaaTotals.lean).
  GIVEN WITH THE SEED: the statements are not yours to turn. If you find one false, say at which input.
  Laid BY PROGRAM, IN A SANDBOX (cutbox-rows.mjs): the forced cells as the released guide's own fill.sh prints them over the translation df29818e9be038f1… (all of the seat's roots in one cut). By AI agents, Wed Nov 11 2026. No macro, syntax, notation, axiom, sorry.
-/
import Derived.Test.YthpkhegoamhgeaaChecked
import GoSem.Claim
import GoSem.ClaimJoined
import GoSem.ClaimMapViews
import Derived.JoinedTies
import Derived.KernelRfl
namespace Go.Proofs.Ythpkhegoamhgeaa
/- THE CELL 'sum', in the pinned program and in every row, IS THE sha256 OF THE DUMP (.gsa) THAT YthpkhegoamhgeaaProg.lean LOADS. Nothing in Lean hashes anything: it is a label: what it is worth is what the hold of that sum in a sandbox is worth. -/
noncomputable def Try.pinned : Pinned := { name := "ythpkhegoamhgeaa", sum := "df29818e9be038f178d90f0b1af388d915df60c16bbb440b5b38e497f6dda2d8", checked := Try.checked }
namespace Rows
def none {H : Type} : Left H := { results := [], args := [] }

/-- 'corbellaw24.AskRuns': WHATEVER THE INPUT: true; the input reads as it did. -/
def askRunsSpec : ChangeSpec := { name := "askRuns", fn := fun _ => fun
  | [d1, d2] => { results := [.lit (.bool true)], args := [d1, d2] }
  | _ => none }
def askRunsRow : OpenClaim := { program := "ythpkhegoamhgeaa", sum := "df29818e9be038f178d90f0b1af388d915df60c16bbb440b5b38e497f6dda2d8", func := "corbel/corbellaw24.AskRuns", spec := "askRuns", apart := false }
def AskRunsSaid : Prop := askRunsRow.holds Try.pinned (OpenSpec.ofChange askRunsSpec)

/-- ITS FALSE NEIGHBOUR: 'it returns false'. Refute it at one input. -/
def askRunsWrong : ChangeSpec := { name := "askRuns", fn := fun _ => fun
  | [d1, d2] => { results := [.lit (.bool false)], args := [d1, d2] }
  | _ => none }
def AskRunsWrongFalsely : Prop := askRunsRow.holds Try.pinned (OpenSpec.ofChange askRunsWrong)

/-- 'corbellaw24.AskBounds': WHATEVER THE INPUT: true; the input reads as it did. -/
def askBoundsSpec : ChangeSpec := { name := "askBounds", fn := fun _ => fun
  | [d1, d2, d3, d4] => { results := [.lit (.bool true)], args := [d1, d2, d3, d4] }
  | _ => none }
def askBoundsRow : OpenClaim := { program := "ythpkhegoamhgeaa", sum := "df29818e9be038f178d90f0b1af388d915df60c16bbb440b5b38e497f6dda2d8", func := "corbel/corbellaw24.AskBounds", spec := "askBounds", apart := false }
def AskBoundsSaid : Prop := askBoundsRow.holds Try.pinned (OpenSpec.ofChange askBoundsSpec)

/-- ITS FALSE NEIGHBOUR: 'it returns false'. Refute it at one input. -/
def askBoundsWrong : ChangeSpec := { name := "askBounds", fn := fun _ => fun
  | [d1, d2, d3, d4] => { results := [.lit (.bool false)], args := [d1, d2, d3, d4] }
  | _ => none }
def AskBoundsWrongFalsely : Prop := askBoundsRow.holds Try.pinned (OpenSpec.ofChange askBoundsWrong)

/-- 'corbellaw24.AskReplies': WHATEVER THE INPUT: true; the input reads as it did. -/
def askRepliesSpec : ChangeSpec := { name := "askReplies", fn := fun _ => fun
  | [d1, d2, d3, d4] => { results := [.lit (.bool true)], args := [d1, d2, d3, d4] }
  | _ => none }
def askRepliesRow : OpenClaim := { program := "ythpkhegoamhgeaa", sum := "df29818e9be038f178d90f0b1af388d915df60c16bbb440b5b38e497f6dda2d8", func := "corbel/corbellaw24.AskReplies", spec := "askReplies", apart := false }
def AskRepliesSaid : Prop := askRepliesRow.holds Try.pinned (OpenSpec.ofChange askRepliesSpec)

/-- ITS FALSE NEIGHBOUR: 'it returns false'. Refute it at one input. -/
def askRepliesWrong : ChangeSpec := { name := "askReplies", fn := fun _ => fun
  | [d1, d2, d3, d4] => { results := [.lit (.bool false)], args := [d1, d2, d3, d4] }
  | _ => none }
def AskRepliesWrongFalsely : Prop := askRepliesRow.holds Try.pinned (OpenSpec.ofChange askRepliesWrong)

/-- 'corbellaw11.CallReqs': WHATEVER THE INPUT: true; the input reads as it did. -/
def callReqsSpec : ChangeSpec := { name := "callReqs", fn := fun _ => fun
  | [d1, d2, d3, d4, d5] => { results := [.lit (.bool true)], args := [d1, d2, d3, d4, d5] }
  | _ => none }
def callReqsRow : OpenClaim := { program := "ythpkhegoamhgeaa", sum := "df29818e9be038f178d90f0b1af388d915df60c16bbb440b5b38e497f6dda2d8", func := "corbel/corbellaw11.CallReqs", spec := "callReqs", apart := false }
def CallReqsSaid : Prop := callReqsRow.holds Try.pinned (OpenSpec.ofChange callReqsSpec)

/-- ITS FALSE NEIGHBOUR: 'it returns false'. Refute it at one input. -/
def callReqsWrong : ChangeSpec := { name := "callReqs", fn := fun _ => fun
  | [d1, d2, d3, d4, d5] => { results := [.lit (.bool false)], args := [d1, d2, d3, d4, d5] }
  | _ => none }
def CallReqsWrongFalsely : Prop := callReqsRow.holds Try.pinned (OpenSpec.ofChange callReqsWrong)

/-- 'corbellaw11.CallBack': WHATEVER THE INPUT: true; the input reads as it did. -/
def callBackSpec : ChangeSpec := { name := "callBack", fn := fun _ => fun
  | [d1, d2] => { results := [.lit (.bool true)], args := [d1, d2] }
  | _ => none }
def callBackRow : OpenClaim := { program := "ythpkhegoamhgeaa", sum := "df29818e9be038f178d90f0b1af388d915df60c16bbb440b5b38e497f6dda2d8", func := "corbel/corbellaw11.CallBack", spec := "callBack", apart := false }
def CallBackSaid : Prop := callBackRow.holds Try.pinned (OpenSpec.ofChange callBackSpec)

/-- ITS FALSE NEIGHBOUR: 'it returns false'. Refute it at one input. -/
def callBackWrong : ChangeSpec := { name := "callBack", fn := fun _ => fun
  | [d1, d2] => { results := [.lit (.bool false)], args := [d1, d2] }
  | _ => none }
def CallBackWrongFalsely : Prop := callBackRow.holds Try.pinned (OpenSpec.ofChange callBackWrong)

/-- 'corbellaw24.AskKnown': WHATEVER THE INPUT: true; the input reads as it did. -/
def askKnownSpec : ChangeSpec := { name := "askKnown", fn := fun _ => fun
  | [] => { results := [.lit (.bool true)], args := [] }
  | _ => none }
def askKnownRow : OpenClaim := { program := "ythpkhegoamhgeaa", sum := "df29818e9be038f178d90f0b1af388d915df60c16bbb440b5b38e497f6dda2d8", func := "corbel/corbellaw24.AskKnown", spec := "askKnown", apart := false }
def AskKnownSaid : Prop := askKnownRow.holds Try.pinned (OpenSpec.ofChange askKnownSpec)

/-- ITS FALSE NEIGHBOUR: 'it returns false'. Refute it at one input. -/
def askKnownWrong : ChangeSpec := { name := "askKnown", fn := fun _ => fun
  | [] => { results := [.lit (.bool false)], args := [] }
  | _ => none }
def AskKnownWrongFalsely : Prop := askKnownRow.holds Try.pinned (OpenSpec.ofChange askKnownWrong)

/-- 'corbellaw11.CallSizes': WHATEVER THE INPUT: true; the input reads as it did. -/
def callSizesSpec : ChangeSpec := { name := "callSizes", fn := fun _ => fun
  | [d1, d2, d3, d4, d5] => { results := [.lit (.bool true)], args := [d1, d2, d3, d4, d5] }
  | _ => none }
def callSizesRow : OpenClaim := { program := "ythpkhegoamhgeaa", sum := "df29818e9be038f178d90f0b1af388d915df60c16bbb440b5b38e497f6dda2d8", func := "corbel/corbellaw11.CallSizes", spec := "callSizes", unfollowed := true, recurses := true, apart := false }
def CallSizesSaid : Prop := callSizesRow.holds Try.pinned (OpenSpec.ofChange callSizesSpec)

/-- ITS FALSE NEIGHBOUR: 'it returns false'. Refute it at one input. -/
def callSizesWrong : ChangeSpec := { name := "callSizes", fn := fun _ => fun
  | [d1, d2, d3, d4, d5] => { results := [.lit (.bool false)], args := [d1, d2, d3, d4, d5] }
  | _ => none }
def CallSizesWrongFalsely : Prop := callSizesRow.holds Try.pinned (OpenSpec.ofChange callSizesWrong)

/-- 'corbellaw11.CallKnown': WHATEVER THE INPUT: true; the input reads as it did. -/
def callKnownSpec : ChangeSpec := { name := "callKnown", fn := fun _ => fun
  | [] => { results := [.lit (.bool true)], args := [] }
  | _ => none }
def callKnownRow : OpenClaim := { program := "ythpkhegoamhgeaa", sum := "df29818e9be038f178d90f0b1af388d915df60c16bbb440b5b38e497f6dda2d8", func := "corbel/corbellaw11.CallKnown", spec := "callKnown", unfollowed := true, recurses := true, apart := false }
def CallKnownSaid : Prop := callKnownRow.holds Try.pinned (OpenSpec.ofChange callKnownSpec)

/-- ITS FALSE NEIGHBOUR: 'it returns false'. Refute it at one input. -/
def callKnownWrong : ChangeSpec := { name := "callKnown", fn := fun _ => fun
  | [] => { results := [.lit (.bool false)], args := [] }
  | _ => none }
def CallKnownWrongFalsely : Prop := callKnownRow.holds Try.pinned (OpenSpec.ofChange callKnownWrong)

/-- 'corbellaw11.CallReps': WHATEVER THE INPUT: true; the input reads as it did. -/
def callRepsSpec : ChangeSpec := { name := "callReps", fn := fun _ => fun
  | [d1, d2, d3, d4, d5, d6, d7, d8] => { results := [.lit (.bool true)], args := [d1, d2, d3, d4, d5, d6, d7, d8] }
  | _ => none }
def callRepsRow : OpenClaim := { program := "ythpkhegoamhgeaa", sum := "df29818e9be038f178d90f0b1af388d915df60c16bbb440b5b38e497f6dda2d8", func := "corbel/corbellaw11.CallReps", spec := "callReps", unfollowed := true, recurses := true, apart := false }
def CallRepsSaid : Prop := callRepsRow.holds Try.pinned (OpenSpec.ofChange callRepsSpec)

/-- ITS FALSE NEIGHBOUR: 'it returns false'. Refute it at one input. -/
def callRepsWrong : ChangeSpec := { name := "callReps", fn := fun _ => fun
  | [d1, d2, d3, d4, d5, d6, d7, d8] => { results := [.lit (.bool false)], args := [d1, d2, d3, d4, d5, d6, d7, d8] }
  | _ => none }
def CallRepsWrongFalsely : Prop := callRepsRow.holds Try.pinned (OpenSpec.ofChange callRepsWrong)

/- THE SECOND FORM. 'bulk': how many values and letters a reading holds, each counted each time it is reached (what is shared counts as often as it is met; a slice's spare places count too). A statement '..UptoSaid' is the law's where the arguments, and the package variables that the reading takes, are together of bulk at most 1048576: NARROWER than '..Said'. Prove '..Said' where nothing that the law and all that it calls make is longer than what came in: it says more and counts as full. Else prove '..UptoSaid'. A law counts once. -/
mutual
def uptoBulk {H : Type} : DataW H → Nat
  | .lit (.string bytes) => bytes.length + 1
  | .lit _ => 1
  | .nil => 1
  | .ptr d => uptoBulk d + 1
  | .slice elems spare => uptoBulkAll elems + uptoBulkAll spare + 1
  | .agg parts => uptoBulkAll parts + 1
  | .iface _ d => uptoBulk d + 1
  | .map entries => uptoBulkEntries entries + 1
  | .held _ => 1
def uptoBulkAll {H : Type} : List (DataW H) → Nat
  | [] => 0
  | d :: r => uptoBulk d + uptoBulkAll r
def uptoBulkEntries {H : Type} : List (Lit × DataW H) → Nat
  | [] => 0
  | x :: r => uptoBulkEntry x + uptoBulkEntries r
def uptoBulkEntry {H : Type} : Lit × DataW H → Nat
  | (.string bytes, d) => bytes.length + uptoBulk d + 1
  | (_, d) => uptoBulk d + 1
 end
def uptoSmall : (H : Type) → List (DataW H) → Bool := fun _ ds => decide (uptoBulkAll ds ≤ 1048576)
def OpenSpec.upto (s : _root_.Go.ChangeSpec) : _root_.Go.OpenSpec := { _root_.Go.OpenSpec.ofChange s with cond := some uptoSmall }

/-- 'corbellaw24.AskRuns', WHERE WHAT IT READS IS OF BULK AT MOST 1048576: true; the input reads as it did. -/
def askRunsUptoRow : OpenClaim := { program := "ythpkhegoamhgeaa", sum := "df29818e9be038f178d90f0b1af388d915df60c16bbb440b5b38e497f6dda2d8", func := "corbel/corbellaw24.AskRuns", spec := "askRuns", apart := false, narrowed := true }
def AskRunsUptoSaid : Prop := askRunsUptoRow.holds Try.pinned (OpenSpec.upto askRunsSpec)

/-- 'corbellaw24.AskBounds', WHERE WHAT IT READS IS OF BULK AT MOST 1048576: true; the input reads as it did. -/
def askBoundsUptoRow : OpenClaim := { program := "ythpkhegoamhgeaa", sum := "df29818e9be038f178d90f0b1af388d915df60c16bbb440b5b38e497f6dda2d8", func := "corbel/corbellaw24.AskBounds", spec := "askBounds", apart := false, narrowed := true }
def AskBoundsUptoSaid : Prop := askBoundsUptoRow.holds Try.pinned (OpenSpec.upto askBoundsSpec)

/-- 'corbellaw24.AskReplies', WHERE WHAT IT READS IS OF BULK AT MOST 1048576: true; the input reads as it did. -/
def askRepliesUptoRow : OpenClaim := { program := "ythpkhegoamhgeaa", sum := "df29818e9be038f178d90f0b1af388d915df60c16bbb440b5b38e497f6dda2d8", func := "corbel/corbellaw24.AskReplies", spec := "askReplies", apart := false, narrowed := true }
def AskRepliesUptoSaid : Prop := askRepliesUptoRow.holds Try.pinned (OpenSpec.upto askRepliesSpec)

/-- 'corbellaw11.CallReqs', WHERE WHAT IT READS IS OF BULK AT MOST 1048576: true; the input reads as it did. -/
def callReqsUptoRow : OpenClaim := { program := "ythpkhegoamhgeaa", sum := "df29818e9be038f178d90f0b1af388d915df60c16bbb440b5b38e497f6dda2d8", func := "corbel/corbellaw11.CallReqs", spec := "callReqs", apart := false, narrowed := true }
def CallReqsUptoSaid : Prop := callReqsUptoRow.holds Try.pinned (OpenSpec.upto callReqsSpec)

/-- 'corbellaw11.CallBack', WHERE WHAT IT READS IS OF BULK AT MOST 1048576: true; the input reads as it did. -/
def callBackUptoRow : OpenClaim := { program := "ythpkhegoamhgeaa", sum := "df29818e9be038f178d90f0b1af388d915df60c16bbb440b5b38e497f6dda2d8", func := "corbel/corbellaw11.CallBack", spec := "callBack", apart := false, narrowed := true }
def CallBackUptoSaid : Prop := callBackUptoRow.holds Try.pinned (OpenSpec.upto callBackSpec)

/-- 'corbellaw24.AskKnown', WHERE WHAT IT READS IS OF BULK AT MOST 1048576: true; the input reads as it did. -/
def askKnownUptoRow : OpenClaim := { program := "ythpkhegoamhgeaa", sum := "df29818e9be038f178d90f0b1af388d915df60c16bbb440b5b38e497f6dda2d8", func := "corbel/corbellaw24.AskKnown", spec := "askKnown", apart := false, narrowed := true }
def AskKnownUptoSaid : Prop := askKnownUptoRow.holds Try.pinned (OpenSpec.upto askKnownSpec)

/-- 'corbellaw11.CallSizes', WHERE WHAT IT READS IS OF BULK AT MOST 1048576: true; the input reads as it did. -/
def callSizesUptoRow : OpenClaim := { program := "ythpkhegoamhgeaa", sum := "df29818e9be038f178d90f0b1af388d915df60c16bbb440b5b38e497f6dda2d8", func := "corbel/corbellaw11.CallSizes", spec := "callSizes", unfollowed := true, recurses := true, apart := false, narrowed := true }
def CallSizesUptoSaid : Prop := callSizesUptoRow.holds Try.pinned (OpenSpec.upto callSizesSpec)

/-- 'corbellaw11.CallKnown', WHERE WHAT IT READS IS OF BULK AT MOST 1048576: true; the input reads as it did. -/
def callKnownUptoRow : OpenClaim := { program := "ythpkhegoamhgeaa", sum := "df29818e9be038f178d90f0b1af388d915df60c16bbb440b5b38e497f6dda2d8", func := "corbel/corbellaw11.CallKnown", spec := "callKnown", unfollowed := true, recurses := true, apart := false, narrowed := true }
def CallKnownUptoSaid : Prop := callKnownUptoRow.holds Try.pinned (OpenSpec.upto callKnownSpec)

/-- 'corbellaw11.CallReps', WHERE WHAT IT READS IS OF BULK AT MOST 1048576: true; the input reads as it did. -/
def callRepsUptoRow : OpenClaim := { program := "ythpkhegoamhgeaa", sum := "df29818e9be038f178d90f0b1af388d915df60c16bbb440b5b38e497f6dda2d8", func := "corbel/corbellaw11.CallReps", spec := "callReps", unfollowed := true, recurses := true, apart := false, narrowed := true }
def CallRepsUptoSaid : Prop := callRepsUptoRow.holds Try.pinned (OpenSpec.upto callRepsSpec)

end Rows
end Go.Proofs.Ythpkhegoamhgeaa
