/-
  No cell of these rows narrows 'for every input' (looked for: loops, veiled, ifaces, maps, wideKeys, modest, calm, conditions, laid).
  DERIVED. THE GIVEN ROWS OF THIS SEAT. 11 by the template 'for every input the law returns true; each argument reads behind the call as it read before'; 0 by the template 'total and deterministic' (their statements: YtbegaeohggkblaaTotals.lean).
  GIVEN WITH THE SEED: the statements are not yours to turn. If you find one false, say at which input.
  Laid BY PROGRAM, IN A SANDBOX (cutbox-rows.mjs): the forced cells as the released guide's own fill.sh prints them over the translation 29d15227cb3249d3… (all of the seat's roots in one cut). By AI agents, Wed Nov 11 2026. No macro, syntax, notation, axiom, sorry.
-/
import Derived.Test.YtbegaeohggkblaaChecked
import GoSem.Claim
import GoSem.ClaimJoined
import GoSem.ClaimMapViews
import Derived.JoinedTies
import Derived.KernelRfl
namespace Go.Proofs.Ytbegaeohggkblaa
/- THE CELL 'sum', in the pinned program and in every row, IS THE sha256 OF THE DUMP (.gsa) THAT YtbegaeohggkblaaProg.lean LOADS. Nothing in Lean hashes anything: it is a label: what it is worth is what the hold of that sum in a sandbox is worth. -/
noncomputable def Try.pinned : Pinned := { name := "ytbegaeohggkblaa", sum := "29d15227cb3249d3e41152ba98d0fa27c5e76bfcef661d6b0ddeae3cd1f04695", checked := Try.checked }
namespace Rows
def none {H : Type} : Left H := { results := [], args := [] }

/-- 'corbellaw6.MarkKnown': WHATEVER THE INPUT: true; the input reads as it did. -/
def markKnownSpec : ChangeSpec := { name := "markKnown", fn := fun _ => fun
  | [] => { results := [.lit (.bool true)], args := [] }
  | _ => none }
def markKnownRow : OpenClaim := { program := "ytbegaeohggkblaa", sum := "29d15227cb3249d3e41152ba98d0fa27c5e76bfcef661d6b0ddeae3cd1f04695", func := "corbel/corbellaw6.MarkKnown", spec := "markKnown", apart := false }
def MarkKnownSaid : Prop := markKnownRow.holds Try.pinned (OpenSpec.ofChange markKnownSpec)

/-- ITS FALSE NEIGHBOUR: 'it returns false'. Refute it at one input. -/
def markKnownWrong : ChangeSpec := { name := "markKnown", fn := fun _ => fun
  | [] => { results := [.lit (.bool false)], args := [] }
  | _ => none }
def MarkKnownWrongFalsely : Prop := markKnownRow.holds Try.pinned (OpenSpec.ofChange markKnownWrong)

/-- 'corbellaw6.MarkTells': WHATEVER THE INPUT: true; the input reads as it did. -/
def markTellsSpec : ChangeSpec := { name := "markTells", fn := fun _ => fun
  | [d1, d2, d3, d4, d5, d6] => { results := [.lit (.bool true)], args := [d1, d2, d3, d4, d5, d6] }
  | _ => none }
def markTellsRow : OpenClaim := { program := "ytbegaeohggkblaa", sum := "29d15227cb3249d3e41152ba98d0fa27c5e76bfcef661d6b0ddeae3cd1f04695", func := "corbel/corbellaw6.MarkTells", spec := "markTells", apart := false }
def MarkTellsSaid : Prop := markTellsRow.holds Try.pinned (OpenSpec.ofChange markTellsSpec)

/-- ITS FALSE NEIGHBOUR: 'it returns false'. Refute it at one input. -/
def markTellsWrong : ChangeSpec := { name := "markTells", fn := fun _ => fun
  | [d1, d2, d3, d4, d5, d6] => { results := [.lit (.bool false)], args := [d1, d2, d3, d4, d5, d6] }
  | _ => none }
def MarkTellsWrongFalsely : Prop := markTellsRow.holds Try.pinned (OpenSpec.ofChange markTellsWrong)

/-- 'corbellaw6.MarkTurns': WHATEVER THE INPUT: true; the input reads as it did. -/
def markTurnsSpec : ChangeSpec := { name := "markTurns", fn := fun _ => fun
  | [d1, d2, d3, d4, d5, d6] => { results := [.lit (.bool true)], args := [d1, d2, d3, d4, d5, d6] }
  | _ => none }
def markTurnsRow : OpenClaim := { program := "ytbegaeohggkblaa", sum := "29d15227cb3249d3e41152ba98d0fa27c5e76bfcef661d6b0ddeae3cd1f04695", func := "corbel/corbellaw6.MarkTurns", spec := "markTurns", apart := false }
def MarkTurnsSaid : Prop := markTurnsRow.holds Try.pinned (OpenSpec.ofChange markTurnsSpec)

/-- ITS FALSE NEIGHBOUR: 'it returns false'. Refute it at one input. -/
def markTurnsWrong : ChangeSpec := { name := "markTurns", fn := fun _ => fun
  | [d1, d2, d3, d4, d5, d6] => { results := [.lit (.bool false)], args := [d1, d2, d3, d4, d5, d6] }
  | _ => none }
def MarkTurnsWrongFalsely : Prop := markTurnsRow.holds Try.pinned (OpenSpec.ofChange markTurnsWrong)

/-- 'corbellaw6.MarkSums': WHATEVER THE INPUT: true; the input reads as it did. -/
def markSumsSpec : ChangeSpec := { name := "markSums", fn := fun _ => fun
  | [d1, d2] => { results := [.lit (.bool true)], args := [d1, d2] }
  | _ => none }
def markSumsRow : OpenClaim := { program := "ytbegaeohggkblaa", sum := "29d15227cb3249d3e41152ba98d0fa27c5e76bfcef661d6b0ddeae3cd1f04695", func := "corbel/corbellaw6.MarkSums", spec := "markSums", apart := false }
def MarkSumsSaid : Prop := markSumsRow.holds Try.pinned (OpenSpec.ofChange markSumsSpec)

/-- ITS FALSE NEIGHBOUR: 'it returns false'. Refute it at one input. -/
def markSumsWrong : ChangeSpec := { name := "markSums", fn := fun _ => fun
  | [d1, d2] => { results := [.lit (.bool false)], args := [d1, d2] }
  | _ => none }
def MarkSumsWrongFalsely : Prop := markSumsRow.holds Try.pinned (OpenSpec.ofChange markSumsWrong)

/-- 'corbellaw6.MarkSizes': WHATEVER THE INPUT: true; the input reads as it did. -/
def markSizesSpec : ChangeSpec := { name := "markSizes", fn := fun _ => fun
  | [d1, d2, d3] => { results := [.lit (.bool true)], args := [d1, d2, d3] }
  | _ => none }
def markSizesRow : OpenClaim := { program := "ytbegaeohggkblaa", sum := "29d15227cb3249d3e41152ba98d0fa27c5e76bfcef661d6b0ddeae3cd1f04695", func := "corbel/corbellaw6.MarkSizes", spec := "markSizes", apart := false }
def MarkSizesSaid : Prop := markSizesRow.holds Try.pinned (OpenSpec.ofChange markSizesSpec)

/-- ITS FALSE NEIGHBOUR: 'it returns false'. Refute it at one input. -/
def markSizesWrong : ChangeSpec := { name := "markSizes", fn := fun _ => fun
  | [d1, d2, d3] => { results := [.lit (.bool false)], args := [d1, d2, d3] }
  | _ => none }
def MarkSizesWrongFalsely : Prop := markSizesRow.holds Try.pinned (OpenSpec.ofChange markSizesWrong)

/-- 'corbellaw7.PlatterKeeps': WHATEVER THE INPUT: true; the input reads as it did. -/
def platterKeepsSpec : ChangeSpec := { name := "platterKeeps", fn := fun _ => fun
  | [d1, d2, d3] => { results := [.lit (.bool true)], args := [d1, d2, d3] }
  | _ => none }
def platterKeepsRow : OpenClaim := { program := "ytbegaeohggkblaa", sum := "29d15227cb3249d3e41152ba98d0fa27c5e76bfcef661d6b0ddeae3cd1f04695", func := "corbel/corbellaw7.PlatterKeeps", spec := "platterKeeps", apart := false }
def PlatterKeepsSaid : Prop := platterKeepsRow.holds Try.pinned (OpenSpec.ofChange platterKeepsSpec)

/-- ITS FALSE NEIGHBOUR: 'it returns false'. Refute it at one input. -/
def platterKeepsWrong : ChangeSpec := { name := "platterKeeps", fn := fun _ => fun
  | [d1, d2, d3] => { results := [.lit (.bool false)], args := [d1, d2, d3] }
  | _ => none }
def PlatterKeepsWrongFalsely : Prop := platterKeepsRow.holds Try.pinned (OpenSpec.ofChange platterKeepsWrong)

/-- 'corbellaw7.PlatterOrder': WHATEVER THE INPUT: true; the input reads as it did. -/
def platterOrderSpec : ChangeSpec := { name := "platterOrder", fn := fun _ => fun
  | [d1, d2] => { results := [.lit (.bool true)], args := [d1, d2] }
  | _ => none }
def platterOrderRow : OpenClaim := { program := "ytbegaeohggkblaa", sum := "29d15227cb3249d3e41152ba98d0fa27c5e76bfcef661d6b0ddeae3cd1f04695", func := "corbel/corbellaw7.PlatterOrder", spec := "platterOrder", apart := false }
def PlatterOrderSaid : Prop := platterOrderRow.holds Try.pinned (OpenSpec.ofChange platterOrderSpec)

/-- ITS FALSE NEIGHBOUR: 'it returns false'. Refute it at one input. -/
def platterOrderWrong : ChangeSpec := { name := "platterOrder", fn := fun _ => fun
  | [d1, d2] => { results := [.lit (.bool false)], args := [d1, d2] }
  | _ => none }
def PlatterOrderWrongFalsely : Prop := platterOrderRow.holds Try.pinned (OpenSpec.ofChange platterOrderWrong)

/-- 'corbellaw7.PlatterKnown': WHATEVER THE INPUT: true; the input reads as it did. -/
def platterKnownSpec : ChangeSpec := { name := "platterKnown", fn := fun _ => fun
  | [] => { results := [.lit (.bool true)], args := [] }
  | _ => none }
def platterKnownRow : OpenClaim := { program := "ytbegaeohggkblaa", sum := "29d15227cb3249d3e41152ba98d0fa27c5e76bfcef661d6b0ddeae3cd1f04695", func := "corbel/corbellaw7.PlatterKnown", spec := "platterKnown", apart := false }
def PlatterKnownSaid : Prop := platterKnownRow.holds Try.pinned (OpenSpec.ofChange platterKnownSpec)

/-- ITS FALSE NEIGHBOUR: 'it returns false'. Refute it at one input. -/
def platterKnownWrong : ChangeSpec := { name := "platterKnown", fn := fun _ => fun
  | [] => { results := [.lit (.bool false)], args := [] }
  | _ => none }
def PlatterKnownWrongFalsely : Prop := platterKnownRow.holds Try.pinned (OpenSpec.ofChange platterKnownWrong)

/-- 'corbellaw7.PlatterActs': WHATEVER THE INPUT: true; the input reads as it did. -/
def platterActsSpec : ChangeSpec := { name := "platterActs", fn := fun _ => fun
  | [d1, d2] => { results := [.lit (.bool true)], args := [d1, d2] }
  | _ => none }
def platterActsRow : OpenClaim := { program := "ytbegaeohggkblaa", sum := "29d15227cb3249d3e41152ba98d0fa27c5e76bfcef661d6b0ddeae3cd1f04695", func := "corbel/corbellaw7.PlatterActs", spec := "platterActs", apart := false }
def PlatterActsSaid : Prop := platterActsRow.holds Try.pinned (OpenSpec.ofChange platterActsSpec)

/-- ITS FALSE NEIGHBOUR: 'it returns false'. Refute it at one input. -/
def platterActsWrong : ChangeSpec := { name := "platterActs", fn := fun _ => fun
  | [d1, d2] => { results := [.lit (.bool false)], args := [d1, d2] }
  | _ => none }
def PlatterActsWrongFalsely : Prop := platterActsRow.holds Try.pinned (OpenSpec.ofChange platterActsWrong)

/-- 'corbellaw9.IntentFrees': WHATEVER THE INPUT: true; the input reads as it did. -/
def intentFreesSpec : ChangeSpec := { name := "intentFrees", fn := fun _ => fun
  | [d1, d2] => { results := [.lit (.bool true)], args := [d1, d2] }
  | _ => none }
def intentFreesRow : OpenClaim := { program := "ytbegaeohggkblaa", sum := "29d15227cb3249d3e41152ba98d0fa27c5e76bfcef661d6b0ddeae3cd1f04695", func := "corbel/corbellaw9.IntentFrees", spec := "intentFrees", unfollowed := true, recurses := true, apart := false }
def IntentFreesSaid : Prop := intentFreesRow.holds Try.pinned (OpenSpec.ofChange intentFreesSpec)

/-- ITS FALSE NEIGHBOUR: 'it returns false'. Refute it at one input. -/
def intentFreesWrong : ChangeSpec := { name := "intentFrees", fn := fun _ => fun
  | [d1, d2] => { results := [.lit (.bool false)], args := [d1, d2] }
  | _ => none }
def IntentFreesWrongFalsely : Prop := intentFreesRow.holds Try.pinned (OpenSpec.ofChange intentFreesWrong)

/-- 'corbellaw9.IntentKnown': WHATEVER THE INPUT: true; the input reads as it did. -/
def intentKnownSpec : ChangeSpec := { name := "intentKnown", fn := fun _ => fun
  | [] => { results := [.lit (.bool true)], args := [] }
  | _ => none }
def intentKnownRow : OpenClaim := { program := "ytbegaeohggkblaa", sum := "29d15227cb3249d3e41152ba98d0fa27c5e76bfcef661d6b0ddeae3cd1f04695", func := "corbel/corbellaw9.IntentKnown", spec := "intentKnown", unfollowed := true, recurses := true, apart := false }
def IntentKnownSaid : Prop := intentKnownRow.holds Try.pinned (OpenSpec.ofChange intentKnownSpec)

/-- ITS FALSE NEIGHBOUR: 'it returns false'. Refute it at one input. -/
def intentKnownWrong : ChangeSpec := { name := "intentKnown", fn := fun _ => fun
  | [] => { results := [.lit (.bool false)], args := [] }
  | _ => none }
def IntentKnownWrongFalsely : Prop := intentKnownRow.holds Try.pinned (OpenSpec.ofChange intentKnownWrong)

/- THE SECOND FORM. 'bulk': how many values and letters a reading holds, each counted each time it is reached (what is shared counts as often as it is met; a slice's spare places count too). A statement '..UptoSaid' is the law's where the arguments, and the package variables that the reading takes, are together of bulk at most 1048576: NARROWER than '..Said'. Prove '..Said' where nothing that the law and all that it calls make is longer than what came in: it says more and counts as full. Else prove '..UptoSaid'. A law counts once. -/
mutual
def uptoBulk {H : Type} : DataW H → Nat
  | .lit (.string bytes) => bytes.length + 1
  | .lit _ => 1
  | .nil => 1
  | .ptr d => uptoBulk d + 1
  | .slice elems spare => uptoBulkAll elems + uptoBulkAll spare + 1
  | .agg parts => uptoBulkAll parts + 1
  | .iface _ d => uptoBulk d + 1
  | .map entries => uptoBulkEntries entries + 1
  | .held _ => 1
def uptoBulkAll {H : Type} : List (DataW H) → Nat
  | [] => 0
  | d :: r => uptoBulk d + uptoBulkAll r
def uptoBulkEntries {H : Type} : List (Lit × DataW H) → Nat
  | [] => 0
  | x :: r => uptoBulkEntry x + uptoBulkEntries r
def uptoBulkEntry {H : Type} : Lit × DataW H → Nat
  | (.string bytes, d) => bytes.length + uptoBulk d + 1
  | (_, d) => uptoBulk d + 1
 end
def uptoSmall : (H : Type) → List (DataW H) → Bool := fun _ ds => decide (uptoBulkAll ds ≤ 1048576)
def OpenSpec.upto (s : _root_.Go.ChangeSpec) : _root_.Go.OpenSpec := { _root_.Go.OpenSpec.ofChange s with cond := some uptoSmall }

/-- 'corbellaw6.MarkKnown', WHERE WHAT IT READS IS OF BULK AT MOST 1048576: true; the input reads as it did. -/
def markKnownUptoRow : OpenClaim := { program := "ytbegaeohggkblaa", sum := "29d15227cb3249d3e41152ba98d0fa27c5e76bfcef661d6b0ddeae3cd1f04695", func := "corbel/corbellaw6.MarkKnown", spec := "markKnown", apart := false, narrowed := true }
def MarkKnownUptoSaid : Prop := markKnownUptoRow.holds Try.pinned (OpenSpec.upto markKnownSpec)

/-- 'corbellaw6.MarkTells', WHERE WHAT IT READS IS OF BULK AT MOST 1048576: true; the input reads as it did. -/
def markTellsUptoRow : OpenClaim := { program := "ytbegaeohggkblaa", sum := "29d15227cb3249d3e41152ba98d0fa27c5e76bfcef661d6b0ddeae3cd1f04695", func := "corbel/corbellaw6.MarkTells", spec := "markTells", apart := false, narrowed := true }
def MarkTellsUptoSaid : Prop := markTellsUptoRow.holds Try.pinned (OpenSpec.upto markTellsSpec)

/-- 'corbellaw6.MarkTurns', WHERE WHAT IT READS IS OF BULK AT MOST 1048576: true; the input reads as it did. -/
def markTurnsUptoRow : OpenClaim := { program := "ytbegaeohggkblaa", sum := "29d15227cb3249d3e41152ba98d0fa27c5e76bfcef661d6b0ddeae3cd1f04695", func := "corbel/corbellaw6.MarkTurns", spec := "markTurns", apart := false, narrowed := true }
def MarkTurnsUptoSaid : Prop := markTurnsUptoRow.holds Try.pinned (OpenSpec.upto markTurnsSpec)

/-- 'corbellaw6.MarkSums', WHERE WHAT IT READS IS OF BULK AT MOST 1048576: true; the input reads as it did. -/
def markSumsUptoRow : OpenClaim := { program := "ytbegaeohggkblaa", sum := "29d15227cb3249d3e41152ba98d0fa27c5e76bfcef661d6b0ddeae3cd1f04695", func := "corbel/corbellaw6.MarkSums", spec := "markSums", apart := false, narrowed := true }
def MarkSumsUptoSaid : Prop := markSumsUptoRow.holds Try.pinned (OpenSpec.upto markSumsSpec)

/-- 'corbellaw6.MarkSizes', WHERE WHAT IT READS IS OF BULK AT MOST 1048576: true; the input reads as it did. -/
def markSizesUptoRow : OpenClaim := { program := "ytbegaeohggkblaa", sum := "29d15227cb3249d3e41152ba98d0fa27c5e76bfcef661d6b0ddeae3cd1f04695", func := "corbel/corbellaw6.MarkSizes", spec := "markSizes", apart := false, narrowed := true }
def MarkSizesUptoSaid : Prop := markSizesUptoRow.holds Try.pinned (OpenSpec.upto markSizesSpec)

/-- 'corbellaw7.PlatterKeeps', WHERE WHAT IT READS IS OF BULK AT MOST 1048576: true; the input reads as it did. -/
def platterKeepsUptoRow : OpenClaim := { program := "ytbegaeohggkblaa", sum := "29d15227cb3249d3e41152ba98d0fa27c5e76bfcef661d6b0ddeae3cd1f04695", func := "corbel/corbellaw7.PlatterKeeps", spec := "platterKeeps", apart := false, narrowed := true }
def PlatterKeepsUptoSaid : Prop := platterKeepsUptoRow.holds Try.pinned (OpenSpec.upto platterKeepsSpec)

/-- 'corbellaw7.PlatterOrder', WHERE WHAT IT READS IS OF BULK AT MOST 1048576: true; the input reads as it did. -/
def platterOrderUptoRow : OpenClaim := { program := "ytbegaeohggkblaa", sum := "29d15227cb3249d3e41152ba98d0fa27c5e76bfcef661d6b0ddeae3cd1f04695", func := "corbel/corbellaw7.PlatterOrder", spec := "platterOrder", apart := false, narrowed := true }
def PlatterOrderUptoSaid : Prop := platterOrderUptoRow.holds Try.pinned (OpenSpec.upto platterOrderSpec)

/-- 'corbellaw7.PlatterKnown', WHERE WHAT IT READS IS OF BULK AT MOST 1048576: true; the input reads as it did. -/
def platterKnownUptoRow : OpenClaim := { program := "ytbegaeohggkblaa", sum := "29d15227cb3249d3e41152ba98d0fa27c5e76bfcef661d6b0ddeae3cd1f04695", func := "corbel/corbellaw7.PlatterKnown", spec := "platterKnown", apart := false, narrowed := true }
def PlatterKnownUptoSaid : Prop := platterKnownUptoRow.holds Try.pinned (OpenSpec.upto platterKnownSpec)

/-- 'corbellaw7.PlatterActs', WHERE WHAT IT READS IS OF BULK AT MOST 1048576: true; the input reads as it did. -/
def platterActsUptoRow : OpenClaim := { program := "ytbegaeohggkblaa", sum := "29d15227cb3249d3e41152ba98d0fa27c5e76bfcef661d6b0ddeae3cd1f04695", func := "corbel/corbellaw7.PlatterActs", spec := "platterActs", apart := false, narrowed := true }
def PlatterActsUptoSaid : Prop := platterActsUptoRow.holds Try.pinned (OpenSpec.upto platterActsSpec)

/-- 'corbellaw9.IntentFrees', WHERE WHAT IT READS IS OF BULK AT MOST 1048576: true; the input reads as it did. -/
def intentFreesUptoRow : OpenClaim := { program := "ytbegaeohggkblaa", sum := "29d15227cb3249d3e41152ba98d0fa27c5e76bfcef661d6b0ddeae3cd1f04695", func := "corbel/corbellaw9.IntentFrees", spec := "intentFrees", unfollowed := true, recurses := true, apart := false, narrowed := true }
def IntentFreesUptoSaid : Prop := intentFreesUptoRow.holds Try.pinned (OpenSpec.upto intentFreesSpec)

/-- 'corbellaw9.IntentKnown', WHERE WHAT IT READS IS OF BULK AT MOST 1048576: true; the input reads as it did. -/
def intentKnownUptoRow : OpenClaim := { program := "ytbegaeohggkblaa", sum := "29d15227cb3249d3e41152ba98d0fa27c5e76bfcef661d6b0ddeae3cd1f04695", func := "corbel/corbellaw9.IntentKnown", spec := "intentKnown", unfollowed := true, recurses := true, apart := false, narrowed := true }
def IntentKnownUptoSaid : Prop := intentKnownUptoRow.holds Try.pinned (OpenSpec.upto intentKnownSpec)

end Rows
end Go.Proofs.Ytbegaeohggkblaa
