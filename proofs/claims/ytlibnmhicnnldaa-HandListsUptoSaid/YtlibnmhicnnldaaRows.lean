/-
  No cell of these rows narrows 'for every input' (looked for: loops, veiled, ifaces, maps, wideKeys, modest, calm, conditions, laid).
  DERIVED. THE GIVEN ROWS OF THIS SEAT. 4 by the template 'for every input the law returns true; each argument reads behind the call as it read before'; 0 by the template 'total and deterministic' (their statements: YtlibnmhicnnldaaTotals.lean).
  GIVEN WITH THE SEED: the statements are not yours to turn. If you find one false, say at which input.
  Laid BY PROGRAM, IN A SANDBOX (cutbox-rows.mjs): the forced cells as the released guide's own fill.sh prints them over the translation 1636c0963dfc9a06… (all of the seat's roots in one cut). By AI agents, Wed Nov 11 2026. No macro, syntax, notation, axiom, sorry.
-/
import Derived.Test.YtlibnmhicnnldaaChecked
import GoSem.Claim
import GoSem.ClaimJoined
import GoSem.ClaimMapViews
import Derived.JoinedTies
import Derived.KernelRfl
namespace Go.Proofs.Ytlibnmhicnnldaa
/- THE CELL 'sum', in the pinned program and in every row, IS THE sha256 OF THE DUMP (.gsa) THAT YtlibnmhicnnldaaProg.lean LOADS. Nothing in Lean hashes anything: it is a label: what it is worth is what the hold of that sum in a sandbox is worth. -/
noncomputable def Try.pinned : Pinned := { name := "ytlibnmhicnnldaa", sum := "1636c0963dfc9a061570a5e0d47badeb5b6d2cb22f1c51ff65f224f01e97f7c3", checked := Try.checked }
namespace Rows
def none {H : Type} : Left H := { results := [], args := [] }

/-- 'corbellaw23.HandKnown': WHATEVER THE INPUT: true; the input reads as it did. -/
def handKnownSpec : ChangeSpec := { name := "handKnown", fn := fun _ => fun
  | [] => { results := [.lit (.bool true)], args := [] }
  | _ => none }
def handKnownRow : OpenClaim := { program := "ytlibnmhicnnldaa", sum := "1636c0963dfc9a061570a5e0d47badeb5b6d2cb22f1c51ff65f224f01e97f7c3", func := "corbel/corbellaw23.HandKnown", spec := "handKnown", unfollowed := true, recurses := true, apart := false }
def HandKnownSaid : Prop := handKnownRow.holds Try.pinned (OpenSpec.ofChange handKnownSpec)

/-- ITS FALSE NEIGHBOUR: 'it returns false'. Refute it at one input. -/
def handKnownWrong : ChangeSpec := { name := "handKnown", fn := fun _ => fun
  | [] => { results := [.lit (.bool false)], args := [] }
  | _ => none }
def HandKnownWrongFalsely : Prop := handKnownRow.holds Try.pinned (OpenSpec.ofChange handKnownWrong)

/-- 'corbellaw23.HandChooses': WHATEVER THE INPUT: true; the input reads as it did. -/
def handChoosesSpec : ChangeSpec := { name := "handChooses", fn := fun _ => fun
  | [d1, d2, d3, d4, d5] => { results := [.lit (.bool true)], args := [d1, d2, d3, d4, d5] }
  | _ => none }
def handChoosesRow : OpenClaim := { program := "ytlibnmhicnnldaa", sum := "1636c0963dfc9a061570a5e0d47badeb5b6d2cb22f1c51ff65f224f01e97f7c3", func := "corbel/corbellaw23.HandChooses", spec := "handChooses", unfollowed := true, recurses := true, apart := false }
def HandChoosesSaid : Prop := handChoosesRow.holds Try.pinned (OpenSpec.ofChange handChoosesSpec)

/-- ITS FALSE NEIGHBOUR: 'it returns false'. Refute it at one input. -/
def handChoosesWrong : ChangeSpec := { name := "handChooses", fn := fun _ => fun
  | [d1, d2, d3, d4, d5] => { results := [.lit (.bool false)], args := [d1, d2, d3, d4, d5] }
  | _ => none }
def HandChoosesWrongFalsely : Prop := handChoosesRow.holds Try.pinned (OpenSpec.ofChange handChoosesWrong)

/-- 'corbellaw23.HandLists': WHATEVER THE INPUT: true; the input reads as it did. -/
def handListsSpec : ChangeSpec := { name := "handLists", fn := fun _ => fun
  | [d1, d2] => { results := [.lit (.bool true)], args := [d1, d2] }
  | _ => none }
def handListsRow : OpenClaim := { program := "ytlibnmhicnnldaa", sum := "1636c0963dfc9a061570a5e0d47badeb5b6d2cb22f1c51ff65f224f01e97f7c3", func := "corbel/corbellaw23.HandLists", spec := "handLists", unfollowed := true, recurses := true, apart := false }
def HandListsSaid : Prop := handListsRow.holds Try.pinned (OpenSpec.ofChange handListsSpec)

/-- ITS FALSE NEIGHBOUR: 'it returns false'. Refute it at one input. -/
def handListsWrong : ChangeSpec := { name := "handLists", fn := fun _ => fun
  | [d1, d2] => { results := [.lit (.bool false)], args := [d1, d2] }
  | _ => none }
def HandListsWrongFalsely : Prop := handListsRow.holds Try.pinned (OpenSpec.ofChange handListsWrong)

/-- 'corbellaw23.HandUnknown': WHATEVER THE INPUT: true; the input reads as it did. -/
def handUnknownSpec : ChangeSpec := { name := "handUnknown", fn := fun _ => fun
  | [d1, d2, d3, d4, d5] => { results := [.lit (.bool true)], args := [d1, d2, d3, d4, d5] }
  | _ => none }
def handUnknownRow : OpenClaim := { program := "ytlibnmhicnnldaa", sum := "1636c0963dfc9a061570a5e0d47badeb5b6d2cb22f1c51ff65f224f01e97f7c3", func := "corbel/corbellaw23.HandUnknown", spec := "handUnknown", unfollowed := true, recurses := true, apart := false }
def HandUnknownSaid : Prop := handUnknownRow.holds Try.pinned (OpenSpec.ofChange handUnknownSpec)

/-- ITS FALSE NEIGHBOUR: 'it returns false'. Refute it at one input. -/
def handUnknownWrong : ChangeSpec := { name := "handUnknown", fn := fun _ => fun
  | [d1, d2, d3, d4, d5] => { results := [.lit (.bool false)], args := [d1, d2, d3, d4, d5] }
  | _ => none }
def HandUnknownWrongFalsely : Prop := handUnknownRow.holds Try.pinned (OpenSpec.ofChange handUnknownWrong)

/- THE SECOND FORM. 'bulk': how many values and letters a reading holds, each counted each time it is reached (what is shared counts as often as it is met; a slice's spare places count too). A statement '..UptoSaid' is the law's where the arguments, and the package variables that the reading takes, are together of bulk at most 1048576: NARROWER than '..Said'. Prove '..Said' where nothing that the law and all that it calls make is longer than what came in: it says more and counts as full. Else prove '..UptoSaid'. A law counts once. -/
mutual
def uptoBulk {H : Type} : DataW H → Nat
  | .lit (.string bytes) => bytes.length + 1
  | .lit _ => 1
  | .nil => 1
  | .ptr d => uptoBulk d + 1
  | .slice elems spare => uptoBulkAll elems + uptoBulkAll spare + 1
  | .agg parts => uptoBulkAll parts + 1
  | .iface _ d => uptoBulk d + 1
  | .map entries => uptoBulkEntries entries + 1
  | .held _ => 1
def uptoBulkAll {H : Type} : List (DataW H) → Nat
  | [] => 0
  | d :: r => uptoBulk d + uptoBulkAll r
def uptoBulkEntries {H : Type} : List (Lit × DataW H) → Nat
  | [] => 0
  | x :: r => uptoBulkEntry x + uptoBulkEntries r
def uptoBulkEntry {H : Type} : Lit × DataW H → Nat
  | (.string bytes, d) => bytes.length + uptoBulk d + 1
  | (_, d) => uptoBulk d + 1
 end
def uptoSmall : (H : Type) → List (DataW H) → Bool := fun _ ds => decide (uptoBulkAll ds ≤ 1048576)
def OpenSpec.upto (s : _root_.Go.ChangeSpec) : _root_.Go.OpenSpec := { _root_.Go.OpenSpec.ofChange s with cond := some uptoSmall }

/-- 'corbellaw23.HandKnown', WHERE WHAT IT READS IS OF BULK AT MOST 1048576: true; the input reads as it did. -/
def handKnownUptoRow : OpenClaim := { program := "ytlibnmhicnnldaa", sum := "1636c0963dfc9a061570a5e0d47badeb5b6d2cb22f1c51ff65f224f01e97f7c3", func := "corbel/corbellaw23.HandKnown", spec := "handKnown", unfollowed := true, recurses := true, apart := false, narrowed := true }
def HandKnownUptoSaid : Prop := handKnownUptoRow.holds Try.pinned (OpenSpec.upto handKnownSpec)

/-- 'corbellaw23.HandChooses', WHERE WHAT IT READS IS OF BULK AT MOST 1048576: true; the input reads as it did. -/
def handChoosesUptoRow : OpenClaim := { program := "ytlibnmhicnnldaa", sum := "1636c0963dfc9a061570a5e0d47badeb5b6d2cb22f1c51ff65f224f01e97f7c3", func := "corbel/corbellaw23.HandChooses", spec := "handChooses", unfollowed := true, recurses := true, apart := false, narrowed := true }
def HandChoosesUptoSaid : Prop := handChoosesUptoRow.holds Try.pinned (OpenSpec.upto handChoosesSpec)

/-- 'corbellaw23.HandLists', WHERE WHAT IT READS IS OF BULK AT MOST 1048576: true; the input reads as it did. -/
def handListsUptoRow : OpenClaim := { program := "ytlibnmhicnnldaa", sum := "1636c0963dfc9a061570a5e0d47badeb5b6d2cb22f1c51ff65f224f01e97f7c3", func := "corbel/corbellaw23.HandLists", spec := "handLists", unfollowed := true, recurses := true, apart := false, narrowed := true }
def HandListsUptoSaid : Prop := handListsUptoRow.holds Try.pinned (OpenSpec.upto handListsSpec)

/-- 'corbellaw23.HandUnknown', WHERE WHAT IT READS IS OF BULK AT MOST 1048576: true; the input reads as it did. -/
def handUnknownUptoRow : OpenClaim := { program := "ytlibnmhicnnldaa", sum := "1636c0963dfc9a061570a5e0d47badeb5b6d2cb22f1c51ff65f224f01e97f7c3", func := "corbel/corbellaw23.HandUnknown", spec := "handUnknown", unfollowed := true, recurses := true, apart := false, narrowed := true }
def HandUnknownUptoSaid : Prop := handUnknownUptoRow.holds Try.pinned (OpenSpec.upto handUnknownSpec)

end Rows
end Go.Proofs.Ytlibnmhicnnldaa
