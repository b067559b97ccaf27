/-
  No cell of these rows narrows 'for every input' (looked for: loops, veiled, ifaces, maps, wideKeys, modest, calm, conditions, laid).
  DERIVED. THE GIVEN ROWS OF THIS SEAT. 15 by the template 'for every input the law returns true; each argument reads behind the call as it read before'; 0 by the template 'total and deterministic' (their statements: YtfenkpghcbohdaaTotals.lean).
  GIVEN WITH THE SEED: the statements are not yours to turn. If you find one false, say at which input.
  Laid BY PROGRAM, IN A SANDBOX (cutbox-rows.mjs): the forced cells as the released guide's own fill.sh prints them over the translation f6144914758f3df6… (all of the seat's roots in one cut). By AI agents, Wed Nov 11 2026. No macro, syntax, notation, axiom, sorry.
-/
import Derived.Test.YtfenkpghcbohdaaChecked
import GoSem.Claim
import GoSem.ClaimJoined
import GoSem.ClaimMapViews
import Derived.JoinedTies
import Derived.KernelRfl
namespace Go.Proofs.Ytfenkpghcbohdaa
/- THE CELL 'sum', in the pinned program and in every row, IS THE sha256 OF THE DUMP (.gsa) THAT YtfenkpghcbohdaaProg.lean LOADS. Nothing in Lean hashes anything: it is a label: what it is worth is what the hold of that sum in a sandbox is worth. -/
noncomputable def Try.pinned : Pinned := { name := "ytfenkpghcbohdaa", sum := "f6144914758f3df652b957c9d98246e875f0f2cc7a40b847542f3cef4a300629", checked := Try.checked }
namespace Rows
def none {H : Type} : Left H := { results := [], args := [] }

/-- 'corbellaw17.ExtentPlaces': WHATEVER THE INPUT: true; the input reads as it did. -/
def extentPlacesSpec : ChangeSpec := { name := "extentPlaces", fn := fun _ => fun
  | [d1, d2, d3] => { results := [.lit (.bool true)], args := [d1, d2, d3] }
  | _ => none }
def extentPlacesRow : OpenClaim := { program := "ytfenkpghcbohdaa", sum := "f6144914758f3df652b957c9d98246e875f0f2cc7a40b847542f3cef4a300629", func := "corbel/corbellaw17.ExtentPlaces", spec := "extentPlaces", unfollowed := true, recurses := true, apart := false }
def ExtentPlacesSaid : Prop := extentPlacesRow.holds Try.pinned (OpenSpec.ofChange extentPlacesSpec)

/-- ITS FALSE NEIGHBOUR: 'it returns false'. Refute it at one input. -/
def extentPlacesWrong : ChangeSpec := { name := "extentPlaces", fn := fun _ => fun
  | [d1, d2, d3] => { results := [.lit (.bool false)], args := [d1, d2, d3] }
  | _ => none }
def ExtentPlacesWrongFalsely : Prop := extentPlacesRow.holds Try.pinned (OpenSpec.ofChange extentPlacesWrong)

/-- 'corbellaw17.ExtentLays': WHATEVER THE INPUT: true; the input reads as it did. -/
def extentLaysSpec : ChangeSpec := { name := "extentLays", fn := fun _ => fun
  | [d1, d2, d3, d4] => { results := [.lit (.bool true)], args := [d1, d2, d3, d4] }
  | _ => none }
def extentLaysRow : OpenClaim := { program := "ytfenkpghcbohdaa", sum := "f6144914758f3df652b957c9d98246e875f0f2cc7a40b847542f3cef4a300629", func := "corbel/corbellaw17.ExtentLays", spec := "extentLays", unfollowed := true, recurses := true, apart := false }
def ExtentLaysSaid : Prop := extentLaysRow.holds Try.pinned (OpenSpec.ofChange extentLaysSpec)

/-- ITS FALSE NEIGHBOUR: 'it returns false'. Refute it at one input. -/
def extentLaysWrong : ChangeSpec := { name := "extentLays", fn := fun _ => fun
  | [d1, d2, d3, d4] => { results := [.lit (.bool false)], args := [d1, d2, d3, d4] }
  | _ => none }
def ExtentLaysWrongFalsely : Prop := extentLaysRow.holds Try.pinned (OpenSpec.ofChange extentLaysWrong)

/-- 'corbellaw17.ExtentSized': WHATEVER THE INPUT: true; the input reads as it did. -/
def extentSizedSpec : ChangeSpec := { name := "extentSized", fn := fun _ => fun
  | [d1, d2] => { results := [.lit (.bool true)], args := [d1, d2] }
  | _ => none }
def extentSizedRow : OpenClaim := { program := "ytfenkpghcbohdaa", sum := "f6144914758f3df652b957c9d98246e875f0f2cc7a40b847542f3cef4a300629", func := "corbel/corbellaw17.ExtentSized", spec := "extentSized", unfollowed := true, recurses := true, apart := false }
def ExtentSizedSaid : Prop := extentSizedRow.holds Try.pinned (OpenSpec.ofChange extentSizedSpec)

/-- ITS FALSE NEIGHBOUR: 'it returns false'. Refute it at one input. -/
def extentSizedWrong : ChangeSpec := { name := "extentSized", fn := fun _ => fun
  | [d1, d2] => { results := [.lit (.bool false)], args := [d1, d2] }
  | _ => none }
def ExtentSizedWrongFalsely : Prop := extentSizedRow.holds Try.pinned (OpenSpec.ofChange extentSizedWrong)

/-- 'corbellaw17.ExtentTells': WHATEVER THE INPUT: true; the input reads as it did. -/
def extentTellsSpec : ChangeSpec := { name := "extentTells", fn := fun _ => fun
  | [d1, d2, d3, d4, d5, d6] => { results := [.lit (.bool true)], args := [d1, d2, d3, d4, d5, d6] }
  | _ => none }
def extentTellsRow : OpenClaim := { program := "ytfenkpghcbohdaa", sum := "f6144914758f3df652b957c9d98246e875f0f2cc7a40b847542f3cef4a300629", func := "corbel/corbellaw17.ExtentTells", spec := "extentTells", unfollowed := true, recurses := true, apart := false }
def ExtentTellsSaid : Prop := extentTellsRow.holds Try.pinned (OpenSpec.ofChange extentTellsSpec)

/-- ITS FALSE NEIGHBOUR: 'it returns false'. Refute it at one input. -/
def extentTellsWrong : ChangeSpec := { name := "extentTells", fn := fun _ => fun
  | [d1, d2, d3, d4, d5, d6] => { results := [.lit (.bool false)], args := [d1, d2, d3, d4, d5, d6] }
  | _ => none }
def ExtentTellsWrongFalsely : Prop := extentTellsRow.holds Try.pinned (OpenSpec.ofChange extentTellsWrong)

/-- 'corbellaw17.ExtentKnown': WHATEVER THE INPUT: true; the input reads as it did. -/
def extentKnownSpec : ChangeSpec := { name := "extentKnown", fn := fun _ => fun
  | [] => { results := [.lit (.bool true)], args := [] }
  | _ => none }
def extentKnownRow : OpenClaim := { program := "ytfenkpghcbohdaa", sum := "f6144914758f3df652b957c9d98246e875f0f2cc7a40b847542f3cef4a300629", func := "corbel/corbellaw17.ExtentKnown", spec := "extentKnown", unfollowed := true, recurses := true, apart := false }
def ExtentKnownSaid : Prop := extentKnownRow.holds Try.pinned (OpenSpec.ofChange extentKnownSpec)

/-- ITS FALSE NEIGHBOUR: 'it returns false'. Refute it at one input. -/
def extentKnownWrong : ChangeSpec := { name := "extentKnown", fn := fun _ => fun
  | [] => { results := [.lit (.bool false)], args := [] }
  | _ => none }
def ExtentKnownWrongFalsely : Prop := extentKnownRow.holds Try.pinned (OpenSpec.ofChange extentKnownWrong)

/-- 'corbellaw19.MetaRoots': WHATEVER THE INPUT: true; the input reads as it did. -/
def metaRootsSpec : ChangeSpec := { name := "metaRoots", fn := fun _ => fun
  | [d1, d2, d3, d4, d5, d6, d7, d8] => { results := [.lit (.bool true)], args := [d1, d2, d3, d4, d5, d6, d7, d8] }
  | _ => none }
def metaRootsRow : OpenClaim := { program := "ytfenkpghcbohdaa", sum := "f6144914758f3df652b957c9d98246e875f0f2cc7a40b847542f3cef4a300629", func := "corbel/corbellaw19.MetaRoots", spec := "metaRoots", inPlace := ["internal/bytealg.abigen_runtime_cmpstring"], unfollowed := true, recurses := true, apart := false }
def MetaRootsSaid : Prop := metaRootsRow.holds Try.pinned (OpenSpec.ofChange metaRootsSpec)

/-- ITS FALSE NEIGHBOUR: 'it returns false'. Refute it at one input. -/
def metaRootsWrong : ChangeSpec := { name := "metaRoots", fn := fun _ => fun
  | [d1, d2, d3, d4, d5, d6, d7, d8] => { results := [.lit (.bool false)], args := [d1, d2, d3, d4, d5, d6, d7, d8] }
  | _ => none }
def MetaRootsWrongFalsely : Prop := metaRootsRow.holds Try.pinned (OpenSpec.ofChange metaRootsWrong)

/-- 'corbellaw19.MetaKnown': WHATEVER THE INPUT: true; the input reads as it did. -/
def metaKnownSpec : ChangeSpec := { name := "metaKnown", fn := fun _ => fun
  | [] => { results := [.lit (.bool true)], args := [] }
  | _ => none }
def metaKnownRow : OpenClaim := { program := "ytfenkpghcbohdaa", sum := "f6144914758f3df652b957c9d98246e875f0f2cc7a40b847542f3cef4a300629", func := "corbel/corbellaw19.MetaKnown", spec := "metaKnown", inPlace := ["internal/bytealg.abigen_runtime_cmpstring"], unfollowed := true, recurses := true, apart := false }
def MetaKnownSaid : Prop := metaKnownRow.holds Try.pinned (OpenSpec.ofChange metaKnownSpec)

/-- ITS FALSE NEIGHBOUR: 'it returns false'. Refute it at one input. -/
def metaKnownWrong : ChangeSpec := { name := "metaKnown", fn := fun _ => fun
  | [] => { results := [.lit (.bool false)], args := [] }
  | _ => none }
def MetaKnownWrongFalsely : Prop := metaKnownRow.holds Try.pinned (OpenSpec.ofChange metaKnownWrong)

/-- 'corbellaw19.MetaLays': WHATEVER THE INPUT: true; the input reads as it did. -/
def metaLaysSpec : ChangeSpec := { name := "metaLays", fn := fun _ => fun
  | [d1, d2, d3, d4, d5, d6] => { results := [.lit (.bool true)], args := [d1, d2, d3, d4, d5, d6] }
  | _ => none }
def metaLaysRow : OpenClaim := { program := "ytfenkpghcbohdaa", sum := "f6144914758f3df652b957c9d98246e875f0f2cc7a40b847542f3cef4a300629", func := "corbel/corbellaw19.MetaLays", spec := "metaLays", inPlace := ["internal/bytealg.abigen_runtime_cmpstring"], unfollowed := true, recurses := true, apart := false }
def MetaLaysSaid : Prop := metaLaysRow.holds Try.pinned (OpenSpec.ofChange metaLaysSpec)

/-- ITS FALSE NEIGHBOUR: 'it returns false'. Refute it at one input. -/
def metaLaysWrong : ChangeSpec := { name := "metaLays", fn := fun _ => fun
  | [d1, d2, d3, d4, d5, d6] => { results := [.lit (.bool false)], args := [d1, d2, d3, d4, d5, d6] }
  | _ => none }
def MetaLaysWrongFalsely : Prop := metaLaysRow.holds Try.pinned (OpenSpec.ofChange metaLaysWrong)

/-- 'corbellaw19.MetaBack': WHATEVER THE INPUT: true; the input reads as it did. -/
def metaBackSpec : ChangeSpec := { name := "metaBack", fn := fun _ => fun
  | [d1, d2] => { results := [.lit (.bool true)], args := [d1, d2] }
  | _ => none }
def metaBackRow : OpenClaim := { program := "ytfenkpghcbohdaa", sum := "f6144914758f3df652b957c9d98246e875f0f2cc7a40b847542f3cef4a300629", func := "corbel/corbellaw19.MetaBack", spec := "metaBack", inPlace := ["internal/bytealg.abigen_runtime_cmpstring"], unfollowed := true, recurses := true, apart := false }
def MetaBackSaid : Prop := metaBackRow.holds Try.pinned (OpenSpec.ofChange metaBackSpec)

/-- ITS FALSE NEIGHBOUR: 'it returns false'. Refute it at one input. -/
def metaBackWrong : ChangeSpec := { name := "metaBack", fn := fun _ => fun
  | [d1, d2] => { results := [.lit (.bool false)], args := [d1, d2] }
  | _ => none }
def MetaBackWrongFalsely : Prop := metaBackRow.holds Try.pinned (OpenSpec.ofChange metaBackWrong)

/-- 'corbellaw19.MetaSizes': WHATEVER THE INPUT: true; the input reads as it did. -/
def metaSizesSpec : ChangeSpec := { name := "metaSizes", fn := fun _ => fun
  | [d1, d2] => { results := [.lit (.bool true)], args := [d1, d2] }
  | _ => none }
def metaSizesRow : OpenClaim := { program := "ytfenkpghcbohdaa", sum := "f6144914758f3df652b957c9d98246e875f0f2cc7a40b847542f3cef4a300629", func := "corbel/corbellaw19.MetaSizes", spec := "metaSizes", inPlace := ["internal/bytealg.abigen_runtime_cmpstring"], unfollowed := true, recurses := true, apart := false }
def MetaSizesSaid : Prop := metaSizesRow.holds Try.pinned (OpenSpec.ofChange metaSizesSpec)

/-- ITS FALSE NEIGHBOUR: 'it returns false'. Refute it at one input. -/
def metaSizesWrong : ChangeSpec := { name := "metaSizes", fn := fun _ => fun
  | [d1, d2] => { results := [.lit (.bool false)], args := [d1, d2] }
  | _ => none }
def MetaSizesWrongFalsely : Prop := metaSizesRow.holds Try.pinned (OpenSpec.ofChange metaSizesWrong)

/-- 'corbellaw18.TreeApart': WHATEVER THE INPUT: true; the input reads as it did. -/
def treeApartSpec : ChangeSpec := { name := "treeApart", fn := fun _ => fun
  | [d] => { results := [.lit (.bool true)], args := [d] }
  | _ => none }
def treeApartRow : OpenClaim := { program := "ytfenkpghcbohdaa", sum := "f6144914758f3df652b957c9d98246e875f0f2cc7a40b847542f3cef4a300629", func := "corbel/corbellaw18.TreeApart", spec := "treeApart", inPlace := ["internal/bytealg.abigen_runtime_cmpstring", "slices.overlaps[corbel/api.Volume]"], unfollowed := true, recurses := true, apart := false }
def TreeApartSaid : Prop := treeApartRow.holds Try.pinned (OpenSpec.ofChange treeApartSpec)

/-- ITS FALSE NEIGHBOUR: 'it returns false'. Refute it at one input. -/
def treeApartWrong : ChangeSpec := { name := "treeApart", fn := fun _ => fun
  | [d] => { results := [.lit (.bool false)], args := [d] }
  | _ => none }
def TreeApartWrongFalsely : Prop := treeApartRow.holds Try.pinned (OpenSpec.ofChange treeApartWrong)

/-- 'corbellaw18.TreeSizes': WHATEVER THE INPUT: true; the input reads as it did. -/
def treeSizesSpec : ChangeSpec := { name := "treeSizes", fn := fun _ => fun
  | [d1, d2] => { results := [.lit (.bool true)], args := [d1, d2] }
  | _ => none }
def treeSizesRow : OpenClaim := { program := "ytfenkpghcbohdaa", sum := "f6144914758f3df652b957c9d98246e875f0f2cc7a40b847542f3cef4a300629", func := "corbel/corbellaw18.TreeSizes", spec := "treeSizes", inPlace := ["internal/bytealg.abigen_runtime_cmpstring", "slices.overlaps[corbel/api.Volume]"], unfollowed := true, recurses := true, apart := false }
def TreeSizesSaid : Prop := treeSizesRow.holds Try.pinned (OpenSpec.ofChange treeSizesSpec)

/-- ITS FALSE NEIGHBOUR: 'it returns false'. Refute it at one input. -/
def treeSizesWrong : ChangeSpec := { name := "treeSizes", fn := fun _ => fun
  | [d1, d2] => { results := [.lit (.bool false)], args := [d1, d2] }
  | _ => none }
def TreeSizesWrongFalsely : Prop := treeSizesRow.holds Try.pinned (OpenSpec.ofChange treeSizesWrong)

/-- 'corbellaw18.TreeOrders': WHATEVER THE INPUT: true; the input reads as it did. -/
def treeOrdersSpec : ChangeSpec := { name := "treeOrders", fn := fun _ => fun
  | [d1, d2] => { results := [.lit (.bool true)], args := [d1, d2] }
  | _ => none }
def treeOrdersRow : OpenClaim := { program := "ytfenkpghcbohdaa", sum := "f6144914758f3df652b957c9d98246e875f0f2cc7a40b847542f3cef4a300629", func := "corbel/corbellaw18.TreeOrders", spec := "treeOrders", inPlace := ["internal/bytealg.abigen_runtime_cmpstring", "slices.overlaps[corbel/api.Volume]"], unfollowed := true, recurses := true, apart := false }
def TreeOrdersSaid : Prop := treeOrdersRow.holds Try.pinned (OpenSpec.ofChange treeOrdersSpec)

/-- ITS FALSE NEIGHBOUR: 'it returns false'. Refute it at one input. -/
def treeOrdersWrong : ChangeSpec := { name := "treeOrders", fn := fun _ => fun
  | [d1, d2] => { results := [.lit (.bool false)], args := [d1, d2] }
  | _ => none }
def TreeOrdersWrongFalsely : Prop := treeOrdersRow.holds Try.pinned (OpenSpec.ofChange treeOrdersWrong)

/-- 'corbellaw18.TreeActs': WHATEVER THE INPUT: true; the input reads as it did. -/
def treeActsSpec : ChangeSpec := { name := "treeActs", fn := fun _ => fun
  | [d1, d2] => { results := [.lit (.bool true)], args := [d1, d2] }
  | _ => none }
def treeActsRow : OpenClaim := { program := "ytfenkpghcbohdaa", sum := "f6144914758f3df652b957c9d98246e875f0f2cc7a40b847542f3cef4a300629", func := "corbel/corbellaw18.TreeActs", spec := "treeActs", inPlace := ["internal/bytealg.abigen_runtime_cmpstring", "slices.overlaps[corbel/api.Volume]"], unfollowed := true, recurses := true, apart := false }
def TreeActsSaid : Prop := treeActsRow.holds Try.pinned (OpenSpec.ofChange treeActsSpec)

/-- ITS FALSE NEIGHBOUR: 'it returns false'. Refute it at one input. -/
def treeActsWrong : ChangeSpec := { name := "treeActs", fn := fun _ => fun
  | [d1, d2] => { results := [.lit (.bool false)], args := [d1, d2] }
  | _ => none }
def TreeActsWrongFalsely : Prop := treeActsRow.holds Try.pinned (OpenSpec.ofChange treeActsWrong)

/-- 'corbellaw18.TreeKnown': WHATEVER THE INPUT: true; the input reads as it did. -/
def treeKnownSpec : ChangeSpec := { name := "treeKnown", fn := fun _ => fun
  | [] => { results := [.lit (.bool true)], args := [] }
  | _ => none }
def treeKnownRow : OpenClaim := { program := "ytfenkpghcbohdaa", sum := "f6144914758f3df652b957c9d98246e875f0f2cc7a40b847542f3cef4a300629", func := "corbel/corbellaw18.TreeKnown", spec := "treeKnown", inPlace := ["internal/bytealg.abigen_runtime_cmpstring", "slices.overlaps[corbel/api.Volume]"], unfollowed := true, recurses := true, apart := false }
def TreeKnownSaid : Prop := treeKnownRow.holds Try.pinned (OpenSpec.ofChange treeKnownSpec)

/-- ITS FALSE NEIGHBOUR: 'it returns false'. Refute it at one input. -/
def treeKnownWrong : ChangeSpec := { name := "treeKnown", fn := fun _ => fun
  | [] => { results := [.lit (.bool false)], args := [] }
  | _ => none }
def TreeKnownWrongFalsely : Prop := treeKnownRow.holds Try.pinned (OpenSpec.ofChange treeKnownWrong)

/- THE SECOND FORM. 'bulk': how many values and letters a reading holds, each counted each time it is reached (what is shared counts as often as it is met; a slice's spare places count too). A statement '..UptoSaid' is the law's where the arguments, and the package variables that the reading takes, are together of bulk at most 1048576: NARROWER than '..Said'. Prove '..Said' where nothing that the law and all that it calls make is longer than what came in: it says more and counts as full. Else prove '..UptoSaid'. A law counts once. -/
mutual
def uptoBulk {H : Type} : DataW H → Nat
  | .lit (.string bytes) => bytes.length + 1
  | .lit _ => 1
  | .nil => 1
  | .ptr d => uptoBulk d + 1
  | .slice elems spare => uptoBulkAll elems + uptoBulkAll spare + 1
  | .agg parts => uptoBulkAll parts + 1
  | .iface _ d => uptoBulk d + 1
  | .map entries => uptoBulkEntries entries + 1
  | .held _ => 1
def uptoBulkAll {H : Type} : List (DataW H) → Nat
  | [] => 0
  | d :: r => uptoBulk d + uptoBulkAll r
def uptoBulkEntries {H : Type} : List (Lit × DataW H) → Nat
  | [] => 0
  | x :: r => uptoBulkEntry x + uptoBulkEntries r
def uptoBulkEntry {H : Type} : Lit × DataW H → Nat
  | (.string bytes, d) => bytes.length + uptoBulk d + 1
  | (_, d) => uptoBulk d + 1
 end
def uptoSmall : (H : Type) → List (DataW H) → Bool := fun _ ds => decide (uptoBulkAll ds ≤ 1048576)
def OpenSpec.upto (s : _root_.Go.ChangeSpec) : _root_.Go.OpenSpec := { _root_.Go.OpenSpec.ofChange s with cond := some uptoSmall }

/-- 'corbellaw17.ExtentPlaces', WHERE WHAT IT READS IS OF BULK AT MOST 1048576: true; the input reads as it did. -/
def extentPlacesUptoRow : OpenClaim := { program := "ytfenkpghcbohdaa", sum := "f6144914758f3df652b957c9d98246e875f0f2cc7a40b847542f3cef4a300629", func := "corbel/corbellaw17.ExtentPlaces", spec := "extentPlaces", unfollowed := true, recurses := true, apart := false, narrowed := true }
def ExtentPlacesUptoSaid : Prop := extentPlacesUptoRow.holds Try.pinned (OpenSpec.upto extentPlacesSpec)

/-- 'corbellaw17.ExtentLays', WHERE WHAT IT READS IS OF BULK AT MOST 1048576: true; the input reads as it did. -/
def extentLaysUptoRow : OpenClaim := { program := "ytfenkpghcbohdaa", sum := "f6144914758f3df652b957c9d98246e875f0f2cc7a40b847542f3cef4a300629", func := "corbel/corbellaw17.ExtentLays", spec := "extentLays", unfollowed := true, recurses := true, apart := false, narrowed := true }
def ExtentLaysUptoSaid : Prop := extentLaysUptoRow.holds Try.pinned (OpenSpec.upto extentLaysSpec)

/-- 'corbellaw17.ExtentSized', WHERE WHAT IT READS IS OF BULK AT MOST 1048576: true; the input reads as it did. -/
def extentSizedUptoRow : OpenClaim := { program := "ytfenkpghcbohdaa", sum := "f6144914758f3df652b957c9d98246e875f0f2cc7a40b847542f3cef4a300629", func := "corbel/corbellaw17.ExtentSized", spec := "extentSized", unfollowed := true, recurses := true, apart := false, narrowed := true }
def ExtentSizedUptoSaid : Prop := extentSizedUptoRow.holds Try.pinned (OpenSpec.upto extentSizedSpec)

/-- 'corbellaw17.ExtentTells', WHERE WHAT IT READS IS OF BULK AT MOST 1048576: true; the input reads as it did. -/
def extentTellsUptoRow : OpenClaim := { program := "ytfenkpghcbohdaa", sum := "f6144914758f3df652b957c9d98246e875f0f2cc7a40b847542f3cef4a300629", func := "corbel/corbellaw17.ExtentTells", spec := "extentTells", unfollowed := true, recurses := true, apart := false, narrowed := true }
def ExtentTellsUptoSaid : Prop := extentTellsUptoRow.holds Try.pinned (OpenSpec.upto extentTellsSpec)

/-- 'corbellaw17.ExtentKnown', WHERE WHAT IT READS IS OF BULK AT MOST 1048576: true; the input reads as it did. -/
def extentKnownUptoRow : OpenClaim := { program := "ytfenkpghcbohdaa", sum := "f6144914758f3df652b957c9d98246e875f0f2cc7a40b847542f3cef4a300629", func := "corbel/corbellaw17.ExtentKnown", spec := "extentKnown", unfollowed := true, recurses := true, apart := false, narrowed := true }
def ExtentKnownUptoSaid : Prop := extentKnownUptoRow.holds Try.pinned (OpenSpec.upto extentKnownSpec)

/-- 'corbellaw19.MetaRoots', WHERE WHAT IT READS IS OF BULK AT MOST 1048576: true; the input reads as it did. -/
def metaRootsUptoRow : OpenClaim := { program := "ytfenkpghcbohdaa", sum := "f6144914758f3df652b957c9d98246e875f0f2cc7a40b847542f3cef4a300629", func := "corbel/corbellaw19.MetaRoots", spec := "metaRoots", inPlace := ["internal/bytealg.abigen_runtime_cmpstring"], unfollowed := true, recurses := true, apart := false, narrowed := true }
def MetaRootsUptoSaid : Prop := metaRootsUptoRow.holds Try.pinned (OpenSpec.upto metaRootsSpec)

/-- 'corbellaw19.MetaKnown', WHERE WHAT IT READS IS OF BULK AT MOST 1048576: true; the input reads as it did. -/
def metaKnownUptoRow : OpenClaim := { program := "ytfenkpghcbohdaa", sum := "f6144914758f3df652b957c9d98246e875f0f2cc7a40b847542f3cef4a300629", func := "corbel/corbellaw19.MetaKnown", spec := "metaKnown", inPlace := ["internal/bytealg.abigen_runtime_cmpstring"], unfollowed := true, recurses := true, apart := false, narrowed := true }
def MetaKnownUptoSaid : Prop := metaKnownUptoRow.holds Try.pinned (OpenSpec.upto metaKnownSpec)

/-- 'corbellaw19.MetaLays', WHERE WHAT IT READS IS OF BULK AT MOST 1048576: true; the input reads as it did. -/
def metaLaysUptoRow : OpenClaim := { program := "ytfenkpghcbohdaa", sum := "f6144914758f3df652b957c9d98246e875f0f2cc7a40b847542f3cef4a300629", func := "corbel/corbellaw19.MetaLays", spec := "metaLays", inPlace := ["internal/bytealg.abigen_runtime_cmpstring"], unfollowed := true, recurses := true, apart := false, narrowed := true }
def MetaLaysUptoSaid : Prop := metaLaysUptoRow.holds Try.pinned (OpenSpec.upto metaLaysSpec)

/-- 'corbellaw19.MetaBack', WHERE WHAT IT READS IS OF BULK AT MOST 1048576: true; the input reads as it did. -/
def metaBackUptoRow : OpenClaim := { program := "ytfenkpghcbohdaa", sum := "f6144914758f3df652b957c9d98246e875f0f2cc7a40b847542f3cef4a300629", func := "corbel/corbellaw19.MetaBack", spec := "metaBack", inPlace := ["internal/bytealg.abigen_runtime_cmpstring"], unfollowed := true, recurses := true, apart := false, narrowed := true }
def MetaBackUptoSaid : Prop := metaBackUptoRow.holds Try.pinned (OpenSpec.upto metaBackSpec)

/-- 'corbellaw19.MetaSizes', WHERE WHAT IT READS IS OF BULK AT MOST 1048576: true; the input reads as it did. -/
def metaSizesUptoRow : OpenClaim := { program := "ytfenkpghcbohdaa", sum := "f6144914758f3df652b957c9d98246e875f0f2cc7a40b847542f3cef4a300629", func := "corbel/corbellaw19.MetaSizes", spec := "metaSizes", inPlace := ["internal/bytealg.abigen_runtime_cmpstring"], unfollowed := true, recurses := true, apart := false, narrowed := true }
def MetaSizesUptoSaid : Prop := metaSizesUptoRow.holds Try.pinned (OpenSpec.upto metaSizesSpec)

/-- 'corbellaw18.TreeApart', WHERE WHAT IT READS IS OF BULK AT MOST 1048576: true; the input reads as it did. -/
def treeApartUptoRow : OpenClaim := { program := "ytfenkpghcbohdaa", sum := "f6144914758f3df652b957c9d98246e875f0f2cc7a40b847542f3cef4a300629", func := "corbel/corbellaw18.TreeApart", spec := "treeApart", inPlace := ["internal/bytealg.abigen_runtime_cmpstring", "slices.overlaps[corbel/api.Volume]"], unfollowed := true, recurses := true, apart := false, narrowed := true }
def TreeApartUptoSaid : Prop := treeApartUptoRow.holds Try.pinned (OpenSpec.upto treeApartSpec)

/-- 'corbellaw18.TreeSizes', WHERE WHAT IT READS IS OF BULK AT MOST 1048576: true; the input reads as it did. -/
def treeSizesUptoRow : OpenClaim := { program := "ytfenkpghcbohdaa", sum := "f6144914758f3df652b957c9d98246e875f0f2cc7a40b847542f3cef4a300629", func := "corbel/corbellaw18.TreeSizes", spec := "treeSizes", inPlace := ["internal/bytealg.abigen_runtime_cmpstring", "slices.overlaps[corbel/api.Volume]"], unfollowed := true, recurses := true, apart := false, narrowed := true }
def TreeSizesUptoSaid : Prop := treeSizesUptoRow.holds Try.pinned (OpenSpec.upto treeSizesSpec)

/-- 'corbellaw18.TreeOrders', WHERE WHAT IT READS IS OF BULK AT MOST 1048576: true; the input reads as it did. -/
def treeOrdersUptoRow : OpenClaim := { program := "ytfenkpghcbohdaa", sum := "f6144914758f3df652b957c9d98246e875f0f2cc7a40b847542f3cef4a300629", func := "corbel/corbellaw18.TreeOrders", spec := "treeOrders", inPlace := ["internal/bytealg.abigen_runtime_cmpstring", "slices.overlaps[corbel/api.Volume]"], unfollowed := true, recurses := true, apart := false, narrowed := true }
def TreeOrdersUptoSaid : Prop := treeOrdersUptoRow.holds Try.pinned (OpenSpec.upto treeOrdersSpec)

/-- 'corbellaw18.TreeActs', WHERE WHAT IT READS IS OF BULK AT MOST 1048576: true; the input reads as it did. -/
def treeActsUptoRow : OpenClaim := { program := "ytfenkpghcbohdaa", sum := "f6144914758f3df652b957c9d98246e875f0f2cc7a40b847542f3cef4a300629", func := "corbel/corbellaw18.TreeActs", spec := "treeActs", inPlace := ["internal/bytealg.abigen_runtime_cmpstring", "slices.overlaps[corbel/api.Volume]"], unfollowed := true, recurses := true, apart := false, narrowed := true }
def TreeActsUptoSaid : Prop := treeActsUptoRow.holds Try.pinned (OpenSpec.upto treeActsSpec)

/-- 'corbellaw18.TreeKnown', WHERE WHAT IT READS IS OF BULK AT MOST 1048576: true; the input reads as it did. -/
def treeKnownUptoRow : OpenClaim := { program := "ytfenkpghcbohdaa", sum := "f6144914758f3df652b957c9d98246e875f0f2cc7a40b847542f3cef4a300629", func := "corbel/corbellaw18.TreeKnown", spec := "treeKnown", inPlace := ["internal/bytealg.abigen_runtime_cmpstring", "slices.overlaps[corbel/api.Volume]"], unfollowed := true, recurses := true, apart := false, narrowed := true }
def TreeKnownUptoSaid : Prop := treeKnownUptoRow.holds Try.pinned (OpenSpec.upto treeKnownSpec)

end Rows
end Go.Proofs.Ytfenkpghcbohdaa
