/-
  No cell of these rows narrows 'for every input' (looked for: loops, veiled, ifaces, maps, wideKeys, modest, calm, conditions, laid).
  DERIVED. THE GIVEN ROWS OF THIS SEAT. 15 by the template 'for every input the law returns true; each argument reads behind the call as it read before'; 0 by the template 'total and deterministic' (their statements: YtnjeafdbifcfhaaTotals.lean).
  GIVEN WITH THE SEED: the statements are not yours to turn. If you find one false, say at which input.
  Laid BY PROGRAM, IN A SANDBOX (cutbox-rows.mjs): the forced cells as the released guide's own fill.sh prints them over the translation 480381e63f28e102… (all of the seat's roots in one cut). By AI agents, Wed Nov 11 2026. No macro, syntax, notation, axiom, sorry.
-/
import Derived.Test.YtnjeafdbifcfhaaChecked
import GoSem.Claim
import GoSem.ClaimJoined
import GoSem.ClaimMapViews
import Derived.JoinedTies
import Derived.KernelRfl
namespace Go.Proofs.Ytnjeafdbifcfhaa
/- THE CELL 'sum', in the pinned program and in every row, IS THE sha256 OF THE DUMP (.gsa) THAT YtnjeafdbifcfhaaProg.lean LOADS. Nothing in Lean hashes anything: it is a label: what it is worth is what the hold of that sum in a sandbox is worth. -/
noncomputable def Try.pinned : Pinned := { name := "ytnjeafdbifcfhaa", sum := "480381e63f28e1027bc65a9d432f6e0e3142ea33d48cafac4f5ec5e51e2247c9", checked := Try.checked }
namespace Rows
def none {H : Type} : Left H := { results := [], args := [] }

/-- 'corbellaw3.FieldPowers': WHATEVER THE INPUT: true; the input reads as it did. -/
def fieldPowersSpec : ChangeSpec := { name := "fieldPowers", fn := fun _ => fun
  | [d] => { results := [.lit (.bool true)], args := [d] }
  | _ => none }
def fieldPowersRow : OpenClaim := { program := "ytnjeafdbifcfhaa", sum := "480381e63f28e1027bc65a9d432f6e0e3142ea33d48cafac4f5ec5e51e2247c9", func := "corbel/corbellaw3.FieldPowers", spec := "fieldPowers", apart := false }
def FieldPowersSaid : Prop := fieldPowersRow.holds Try.pinned (OpenSpec.ofChange fieldPowersSpec)

/-- ITS FALSE NEIGHBOUR: 'it returns false'. Refute it at one input. -/
def fieldPowersWrong : ChangeSpec := { name := "fieldPowers", fn := fun _ => fun
  | [d] => { results := [.lit (.bool false)], args := [d] }
  | _ => none }
def FieldPowersWrongFalsely : Prop := fieldPowersRow.holds Try.pinned (OpenSpec.ofChange fieldPowersWrong)

/-- 'corbellaw3.FieldInverses': WHATEVER THE INPUT: true; the input reads as it did. -/
def fieldInversesSpec : ChangeSpec := { name := "fieldInverses", fn := fun _ => fun
  | [d1, d2] => { results := [.lit (.bool true)], args := [d1, d2] }
  | _ => none }
def fieldInversesRow : OpenClaim := { program := "ytnjeafdbifcfhaa", sum := "480381e63f28e1027bc65a9d432f6e0e3142ea33d48cafac4f5ec5e51e2247c9", func := "corbel/corbellaw3.FieldInverses", spec := "fieldInverses", apart := false }
def FieldInversesSaid : Prop := fieldInversesRow.holds Try.pinned (OpenSpec.ofChange fieldInversesSpec)

/-- ITS FALSE NEIGHBOUR: 'it returns false'. Refute it at one input. -/
def fieldInversesWrong : ChangeSpec := { name := "fieldInverses", fn := fun _ => fun
  | [d1, d2] => { results := [.lit (.bool false)], args := [d1, d2] }
  | _ => none }
def FieldInversesWrongFalsely : Prop := fieldInversesRow.holds Try.pinned (OpenSpec.ofChange fieldInversesWrong)

/-- 'corbellaw3.FieldKnown': WHATEVER THE INPUT: true; the input reads as it did. -/
def fieldKnownSpec : ChangeSpec := { name := "fieldKnown", fn := fun _ => fun
  | [] => { results := [.lit (.bool true)], args := [] }
  | _ => none }
def fieldKnownRow : OpenClaim := { program := "ytnjeafdbifcfhaa", sum := "480381e63f28e1027bc65a9d432f6e0e3142ea33d48cafac4f5ec5e51e2247c9", func := "corbel/corbellaw3.FieldKnown", spec := "fieldKnown", apart := false }
def FieldKnownSaid : Prop := fieldKnownRow.holds Try.pinned (OpenSpec.ofChange fieldKnownSpec)

/-- ITS FALSE NEIGHBOUR: 'it returns false'. Refute it at one input. -/
def fieldKnownWrong : ChangeSpec := { name := "fieldKnown", fn := fun _ => fun
  | [] => { results := [.lit (.bool false)], args := [] }
  | _ => none }
def FieldKnownWrongFalsely : Prop := fieldKnownRow.holds Try.pinned (OpenSpec.ofChange fieldKnownWrong)

/-- 'corbellaw3.FieldTells': WHATEVER THE INPUT: true; the input reads as it did. -/
def fieldTellsSpec : ChangeSpec := { name := "fieldTells", fn := fun _ => fun
  | [d1, d2, d3] => { results := [.lit (.bool true)], args := [d1, d2, d3] }
  | _ => none }
def fieldTellsRow : OpenClaim := { program := "ytnjeafdbifcfhaa", sum := "480381e63f28e1027bc65a9d432f6e0e3142ea33d48cafac4f5ec5e51e2247c9", func := "corbel/corbellaw3.FieldTells", spec := "fieldTells", apart := false }
def FieldTellsSaid : Prop := fieldTellsRow.holds Try.pinned (OpenSpec.ofChange fieldTellsSpec)

/-- ITS FALSE NEIGHBOUR: 'it returns false'. Refute it at one input. -/
def fieldTellsWrong : ChangeSpec := { name := "fieldTells", fn := fun _ => fun
  | [d1, d2, d3] => { results := [.lit (.bool false)], args := [d1, d2, d3] }
  | _ => none }
def FieldTellsWrongFalsely : Prop := fieldTellsRow.holds Try.pinned (OpenSpec.ofChange fieldTellsWrong)

/-- 'corbellaw3.FieldLaws': WHATEVER THE INPUT: true; the input reads as it did. -/
def fieldLawsSpec : ChangeSpec := { name := "fieldLaws", fn := fun _ => fun
  | [d1, d2, d3, d4, d5] => { results := [.lit (.bool true)], args := [d1, d2, d3, d4, d5] }
  | _ => none }
def fieldLawsRow : OpenClaim := { program := "ytnjeafdbifcfhaa", sum := "480381e63f28e1027bc65a9d432f6e0e3142ea33d48cafac4f5ec5e51e2247c9", func := "corbel/corbellaw3.FieldLaws", spec := "fieldLaws", apart := false }
def FieldLawsSaid : Prop := fieldLawsRow.holds Try.pinned (OpenSpec.ofChange fieldLawsSpec)

/-- ITS FALSE NEIGHBOUR: 'it returns false'. Refute it at one input. -/
def fieldLawsWrong : ChangeSpec := { name := "fieldLaws", fn := fun _ => fun
  | [d1, d2, d3, d4, d5] => { results := [.lit (.bool false)], args := [d1, d2, d3, d4, d5] }
  | _ => none }
def FieldLawsWrongFalsely : Prop := fieldLawsRow.holds Try.pinned (OpenSpec.ofChange fieldLawsWrong)

/-- 'corbellaw4.MatrixKnown': WHATEVER THE INPUT: true; the input reads as it did. -/
def matrixKnownSpec : ChangeSpec := { name := "matrixKnown", fn := fun _ => fun
  | [] => { results := [.lit (.bool true)], args := [] }
  | _ => none }
def matrixKnownRow : OpenClaim := { program := "ytnjeafdbifcfhaa", sum := "480381e63f28e1027bc65a9d432f6e0e3142ea33d48cafac4f5ec5e51e2247c9", func := "corbel/corbellaw4.MatrixKnown", spec := "matrixKnown", unfollowed := true, recurses := true, apart := false }
def MatrixKnownSaid : Prop := matrixKnownRow.holds Try.pinned (OpenSpec.ofChange matrixKnownSpec)

/-- ITS FALSE NEIGHBOUR: 'it returns false'. Refute it at one input. -/
def matrixKnownWrong : ChangeSpec := { name := "matrixKnown", fn := fun _ => fun
  | [] => { results := [.lit (.bool false)], args := [] }
  | _ => none }
def MatrixKnownWrongFalsely : Prop := matrixKnownRow.holds Try.pinned (OpenSpec.ofChange matrixKnownWrong)

/-- 'corbellaw4.MatrixTells': WHATEVER THE INPUT: true; the input reads as it did. -/
def matrixTellsSpec : ChangeSpec := { name := "matrixTells", fn := fun _ => fun
  | [d1, d2, d3, d4, d5, d6] => { results := [.lit (.bool true)], args := [d1, d2, d3, d4, d5, d6] }
  | _ => none }
def matrixTellsRow : OpenClaim := { program := "ytnjeafdbifcfhaa", sum := "480381e63f28e1027bc65a9d432f6e0e3142ea33d48cafac4f5ec5e51e2247c9", func := "corbel/corbellaw4.MatrixTells", spec := "matrixTells", unfollowed := true, recurses := true, apart := false }
def MatrixTellsSaid : Prop := matrixTellsRow.holds Try.pinned (OpenSpec.ofChange matrixTellsSpec)

/-- ITS FALSE NEIGHBOUR: 'it returns false'. Refute it at one input. -/
def matrixTellsWrong : ChangeSpec := { name := "matrixTells", fn := fun _ => fun
  | [d1, d2, d3, d4, d5, d6] => { results := [.lit (.bool false)], args := [d1, d2, d3, d4, d5, d6] }
  | _ => none }
def MatrixTellsWrongFalsely : Prop := matrixTellsRow.holds Try.pinned (OpenSpec.ofChange matrixTellsWrong)

/-- 'corbellaw4.MatrixBack': WHATEVER THE INPUT: true; the input reads as it did. -/
def matrixBackSpec : ChangeSpec := { name := "matrixBack", fn := fun _ => fun
  | [d1, d2, d3] => { results := [.lit (.bool true)], args := [d1, d2, d3] }
  | _ => none }
def matrixBackRow : OpenClaim := { program := "ytnjeafdbifcfhaa", sum := "480381e63f28e1027bc65a9d432f6e0e3142ea33d48cafac4f5ec5e51e2247c9", func := "corbel/corbellaw4.MatrixBack", spec := "matrixBack", unfollowed := true, recurses := true, apart := false }
def MatrixBackSaid : Prop := matrixBackRow.holds Try.pinned (OpenSpec.ofChange matrixBackSpec)

/-- ITS FALSE NEIGHBOUR: 'it returns false'. Refute it at one input. -/
def matrixBackWrong : ChangeSpec := { name := "matrixBack", fn := fun _ => fun
  | [d1, d2, d3] => { results := [.lit (.bool false)], args := [d1, d2, d3] }
  | _ => none }
def MatrixBackWrongFalsely : Prop := matrixBackRow.holds Try.pinned (OpenSpec.ofChange matrixBackWrong)

/-- 'corbellaw4.MatrixRows': WHATEVER THE INPUT: true; the input reads as it did. -/
def matrixRowsSpec : ChangeSpec := { name := "matrixRows", fn := fun _ => fun
  | [d1, d2, d3, d4] => { results := [.lit (.bool true)], args := [d1, d2, d3, d4] }
  | _ => none }
def matrixRowsRow : OpenClaim := { program := "ytnjeafdbifcfhaa", sum := "480381e63f28e1027bc65a9d432f6e0e3142ea33d48cafac4f5ec5e51e2247c9", func := "corbel/corbellaw4.MatrixRows", spec := "matrixRows", unfollowed := true, recurses := true, apart := false }
def MatrixRowsSaid : Prop := matrixRowsRow.holds Try.pinned (OpenSpec.ofChange matrixRowsSpec)

/-- ITS FALSE NEIGHBOUR: 'it returns false'. Refute it at one input. -/
def matrixRowsWrong : ChangeSpec := { name := "matrixRows", fn := fun _ => fun
  | [d1, d2, d3, d4] => { results := [.lit (.bool false)], args := [d1, d2, d3, d4] }
  | _ => none }
def MatrixRowsWrongFalsely : Prop := matrixRowsRow.holds Try.pinned (OpenSpec.ofChange matrixRowsWrong)

/-- 'corbellaw5.CoderAdds': WHATEVER THE INPUT: true; the input reads as it did. -/
def coderAddsSpec : ChangeSpec := { name := "coderAdds", fn := fun _ => fun
  | [d1, d2] => { results := [.lit (.bool true)], args := [d1, d2] }
  | _ => none }
def coderAddsRow : OpenClaim := { program := "ytnjeafdbifcfhaa", sum := "480381e63f28e1027bc65a9d432f6e0e3142ea33d48cafac4f5ec5e51e2247c9", func := "corbel/corbellaw5.CoderAdds", spec := "coderAdds", unfollowed := true, recurses := true, apart := false }
def CoderAddsSaid : Prop := coderAddsRow.holds Try.pinned (OpenSpec.ofChange coderAddsSpec)

/-- ITS FALSE NEIGHBOUR: 'it returns false'. Refute it at one input. -/
def coderAddsWrong : ChangeSpec := { name := "coderAdds", fn := fun _ => fun
  | [d1, d2] => { results := [.lit (.bool false)], args := [d1, d2] }
  | _ => none }
def CoderAddsWrongFalsely : Prop := coderAddsRow.holds Try.pinned (OpenSpec.ofChange coderAddsWrong)

/-- 'corbellaw5.CoderDeltas': WHATEVER THE INPUT: true; the input reads as it did. -/
def coderDeltasSpec : ChangeSpec := { name := "coderDeltas", fn := fun _ => fun
  | [d1, d2, d3] => { results := [.lit (.bool true)], args := [d1, d2, d3] }
  | _ => none }
def coderDeltasRow : OpenClaim := { program := "ytnjeafdbifcfhaa", sum := "480381e63f28e1027bc65a9d432f6e0e3142ea33d48cafac4f5ec5e51e2247c9", func := "corbel/corbellaw5.CoderDeltas", spec := "coderDeltas", unfollowed := true, recurses := true, apart := false }
def CoderDeltasSaid : Prop := coderDeltasRow.holds Try.pinned (OpenSpec.ofChange coderDeltasSpec)

/-- ITS FALSE NEIGHBOUR: 'it returns false'. Refute it at one input. -/
def coderDeltasWrong : ChangeSpec := { name := "coderDeltas", fn := fun _ => fun
  | [d1, d2, d3] => { results := [.lit (.bool false)], args := [d1, d2, d3] }
  | _ => none }
def CoderDeltasWrongFalsely : Prop := coderDeltasRow.holds Try.pinned (OpenSpec.ofChange coderDeltasWrong)

/-- 'corbellaw5.CoderTells': WHATEVER THE INPUT: true; the input reads as it did. -/
def coderTellsSpec : ChangeSpec := { name := "coderTells", fn := fun _ => fun
  | [d1, d2, d3, d4, d5, d6] => { results := [.lit (.bool true)], args := [d1, d2, d3, d4, d5, d6] }
  | _ => none }
def coderTellsRow : OpenClaim := { program := "ytnjeafdbifcfhaa", sum := "480381e63f28e1027bc65a9d432f6e0e3142ea33d48cafac4f5ec5e51e2247c9", func := "corbel/corbellaw5.CoderTells", spec := "coderTells", unfollowed := true, recurses := true, apart := false }
def CoderTellsSaid : Prop := coderTellsRow.holds Try.pinned (OpenSpec.ofChange coderTellsSpec)

/-- ITS FALSE NEIGHBOUR: 'it returns false'. Refute it at one input. -/
def coderTellsWrong : ChangeSpec := { name := "coderTells", fn := fun _ => fun
  | [d1, d2, d3, d4, d5, d6] => { results := [.lit (.bool false)], args := [d1, d2, d3, d4, d5, d6] }
  | _ => none }
def CoderTellsWrongFalsely : Prop := coderTellsRow.holds Try.pinned (OpenSpec.ofChange coderTellsWrong)

/-- 'corbellaw5.CoderBack': WHATEVER THE INPUT: true; the input reads as it did. -/
def coderBackSpec : ChangeSpec := { name := "coderBack", fn := fun _ => fun
  | [d1, d2, d3] => { results := [.lit (.bool true)], args := [d1, d2, d3] }
  | _ => none }
def coderBackRow : OpenClaim := { program := "ytnjeafdbifcfhaa", sum := "480381e63f28e1027bc65a9d432f6e0e3142ea33d48cafac4f5ec5e51e2247c9", func := "corbel/corbellaw5.CoderBack", spec := "coderBack", unfollowed := true, recurses := true, apart := false }
def CoderBackSaid : Prop := coderBackRow.holds Try.pinned (OpenSpec.ofChange coderBackSpec)

/-- ITS FALSE NEIGHBOUR: 'it returns false'. Refute it at one input. -/
def coderBackWrong : ChangeSpec := { name := "coderBack", fn := fun _ => fun
  | [d1, d2, d3] => { results := [.lit (.bool false)], args := [d1, d2, d3] }
  | _ => none }
def CoderBackWrongFalsely : Prop := coderBackRow.holds Try.pinned (OpenSpec.ofChange coderBackWrong)

/-- 'corbellaw5.CoderChecks': WHATEVER THE INPUT: true; the input reads as it did. -/
def coderChecksSpec : ChangeSpec := { name := "coderChecks", fn := fun _ => fun
  | [d1, d2, d3, d4] => { results := [.lit (.bool true)], args := [d1, d2, d3, d4] }
  | _ => none }
def coderChecksRow : OpenClaim := { program := "ytnjeafdbifcfhaa", sum := "480381e63f28e1027bc65a9d432f6e0e3142ea33d48cafac4f5ec5e51e2247c9", func := "corbel/corbellaw5.CoderChecks", spec := "coderChecks", unfollowed := true, recurses := true, apart := false }
def CoderChecksSaid : Prop := coderChecksRow.holds Try.pinned (OpenSpec.ofChange coderChecksSpec)

/-- ITS FALSE NEIGHBOUR: 'it returns false'. Refute it at one input. -/
def coderChecksWrong : ChangeSpec := { name := "coderChecks", fn := fun _ => fun
  | [d1, d2, d3, d4] => { results := [.lit (.bool false)], args := [d1, d2, d3, d4] }
  | _ => none }
def CoderChecksWrongFalsely : Prop := coderChecksRow.holds Try.pinned (OpenSpec.ofChange coderChecksWrong)

/-- 'corbellaw5.CoderKnown': WHATEVER THE INPUT: true; the input reads as it did. -/
def coderKnownSpec : ChangeSpec := { name := "coderKnown", fn := fun _ => fun
  | [] => { results := [.lit (.bool true)], args := [] }
  | _ => none }
def coderKnownRow : OpenClaim := { program := "ytnjeafdbifcfhaa", sum := "480381e63f28e1027bc65a9d432f6e0e3142ea33d48cafac4f5ec5e51e2247c9", func := "corbel/corbellaw5.CoderKnown", spec := "coderKnown", unfollowed := true, recurses := true, apart := false }
def CoderKnownSaid : Prop := coderKnownRow.holds Try.pinned (OpenSpec.ofChange coderKnownSpec)

/-- ITS FALSE NEIGHBOUR: 'it returns false'. Refute it at one input. -/
def coderKnownWrong : ChangeSpec := { name := "coderKnown", fn := fun _ => fun
  | [] => { results := [.lit (.bool false)], args := [] }
  | _ => none }
def CoderKnownWrongFalsely : Prop := coderKnownRow.holds Try.pinned (OpenSpec.ofChange coderKnownWrong)

/- THE SECOND FORM. 'bulk': how many values and letters a reading holds, each counted each time it is reached (what is shared counts as often as it is met; a slice's spare places count too). A statement '..UptoSaid' is the law's where the arguments, and the package variables that the reading takes, are together of bulk at most 1048576: NARROWER than '..Said'. Prove '..Said' where nothing that the law and all that it calls make is longer than what came in: it says more and counts as full. Else prove '..UptoSaid'. A law counts once. -/
mutual
def uptoBulk {H : Type} : DataW H → Nat
  | .lit (.string bytes) => bytes.length + 1
  | .lit _ => 1
  | .nil => 1
  | .ptr d => uptoBulk d + 1
  | .slice elems spare => uptoBulkAll elems + uptoBulkAll spare + 1
  | .agg parts => uptoBulkAll parts + 1
  | .iface _ d => uptoBulk d + 1
  | .map entries => uptoBulkEntries entries + 1
  | .held _ => 1
def uptoBulkAll {H : Type} : List (DataW H) → Nat
  | [] => 0
  | d :: r => uptoBulk d + uptoBulkAll r
def uptoBulkEntries {H : Type} : List (Lit × DataW H) → Nat
  | [] => 0
  | x :: r => uptoBulkEntry x + uptoBulkEntries r
def uptoBulkEntry {H : Type} : Lit × DataW H → Nat
  | (.string bytes, d) => bytes.length + uptoBulk d + 1
  | (_, d) => uptoBulk d + 1
 end
def uptoSmall : (H : Type) → List (DataW H) → Bool := fun _ ds => decide (uptoBulkAll ds ≤ 1048576)
def OpenSpec.upto (s : _root_.Go.ChangeSpec) : _root_.Go.OpenSpec := { _root_.Go.OpenSpec.ofChange s with cond := some uptoSmall }

/-- 'corbellaw3.FieldPowers', WHERE WHAT IT READS IS OF BULK AT MOST 1048576: true; the input reads as it did. -/
def fieldPowersUptoRow : OpenClaim := { program := "ytnjeafdbifcfhaa", sum := "480381e63f28e1027bc65a9d432f6e0e3142ea33d48cafac4f5ec5e51e2247c9", func := "corbel/corbellaw3.FieldPowers", spec := "fieldPowers", apart := false, narrowed := true }
def FieldPowersUptoSaid : Prop := fieldPowersUptoRow.holds Try.pinned (OpenSpec.upto fieldPowersSpec)

/-- 'corbellaw3.FieldInverses', WHERE WHAT IT READS IS OF BULK AT MOST 1048576: true; the input reads as it did. -/
def fieldInversesUptoRow : OpenClaim := { program := "ytnjeafdbifcfhaa", sum := "480381e63f28e1027bc65a9d432f6e0e3142ea33d48cafac4f5ec5e51e2247c9", func := "corbel/corbellaw3.FieldInverses", spec := "fieldInverses", apart := false, narrowed := true }
def FieldInversesUptoSaid : Prop := fieldInversesUptoRow.holds Try.pinned (OpenSpec.upto fieldInversesSpec)

/-- 'corbellaw3.FieldKnown', WHERE WHAT IT READS IS OF BULK AT MOST 1048576: true; the input reads as it did. -/
def fieldKnownUptoRow : OpenClaim := { program := "ytnjeafdbifcfhaa", sum := "480381e63f28e1027bc65a9d432f6e0e3142ea33d48cafac4f5ec5e51e2247c9", func := "corbel/corbellaw3.FieldKnown", spec := "fieldKnown", apart := false, narrowed := true }
def FieldKnownUptoSaid : Prop := fieldKnownUptoRow.holds Try.pinned (OpenSpec.upto fieldKnownSpec)

/-- 'corbellaw3.FieldTells', WHERE WHAT IT READS IS OF BULK AT MOST 1048576: true; the input reads as it did. -/
def fieldTellsUptoRow : OpenClaim := { program := "ytnjeafdbifcfhaa", sum := "480381e63f28e1027bc65a9d432f6e0e3142ea33d48cafac4f5ec5e51e2247c9", func := "corbel/corbellaw3.FieldTells", spec := "fieldTells", apart := false, narrowed := true }
def FieldTellsUptoSaid : Prop := fieldTellsUptoRow.holds Try.pinned (OpenSpec.upto fieldTellsSpec)

/-- 'corbellaw3.FieldLaws', WHERE WHAT IT READS IS OF BULK AT MOST 1048576: true; the input reads as it did. -/
def fieldLawsUptoRow : OpenClaim := { program := "ytnjeafdbifcfhaa", sum := "480381e63f28e1027bc65a9d432f6e0e3142ea33d48cafac4f5ec5e51e2247c9", func := "corbel/corbellaw3.FieldLaws", spec := "fieldLaws", apart := false, narrowed := true }
def FieldLawsUptoSaid : Prop := fieldLawsUptoRow.holds Try.pinned (OpenSpec.upto fieldLawsSpec)

/-- 'corbellaw4.MatrixKnown', WHERE WHAT IT READS IS OF BULK AT MOST 1048576: true; the input reads as it did. -/
def matrixKnownUptoRow : OpenClaim := { program := "ytnjeafdbifcfhaa", sum := "480381e63f28e1027bc65a9d432f6e0e3142ea33d48cafac4f5ec5e51e2247c9", func := "corbel/corbellaw4.MatrixKnown", spec := "matrixKnown", unfollowed := true, recurses := true, apart := false, narrowed := true }
def MatrixKnownUptoSaid : Prop := matrixKnownUptoRow.holds Try.pinned (OpenSpec.upto matrixKnownSpec)

/-- 'corbellaw4.MatrixTells', WHERE WHAT IT READS IS OF BULK AT MOST 1048576: true; the input reads as it did. -/
def matrixTellsUptoRow : OpenClaim := { program := "ytnjeafdbifcfhaa", sum := "480381e63f28e1027bc65a9d432f6e0e3142ea33d48cafac4f5ec5e51e2247c9", func := "corbel/corbellaw4.MatrixTells", spec := "matrixTells", unfollowed := true, recurses := true, apart := false, narrowed := true }
def MatrixTellsUptoSaid : Prop := matrixTellsUptoRow.holds Try.pinned (OpenSpec.upto matrixTellsSpec)

/-- 'corbellaw4.MatrixBack', WHERE WHAT IT READS IS OF BULK AT MOST 1048576: true; the input reads as it did. -/
def matrixBackUptoRow : OpenClaim := { program := "ytnjeafdbifcfhaa", sum := "480381e63f28e1027bc65a9d432f6e0e3142ea33d48cafac4f5ec5e51e2247c9", func := "corbel/corbellaw4.MatrixBack", spec := "matrixBack", unfollowed := true, recurses := true, apart := false, narrowed := true }
def MatrixBackUptoSaid : Prop := matrixBackUptoRow.holds Try.pinned (OpenSpec.upto matrixBackSpec)

/-- 'corbellaw4.MatrixRows', WHERE WHAT IT READS IS OF BULK AT MOST 1048576: true; the input reads as it did. -/
def matrixRowsUptoRow : OpenClaim := { program := "ytnjeafdbifcfhaa", sum := "480381e63f28e1027bc65a9d432f6e0e3142ea33d48cafac4f5ec5e51e2247c9", func := "corbel/corbellaw4.MatrixRows", spec := "matrixRows", unfollowed := true, recurses := true, apart := false, narrowed := true }
def MatrixRowsUptoSaid : Prop := matrixRowsUptoRow.holds Try.pinned (OpenSpec.upto matrixRowsSpec)

/-- 'corbellaw5.CoderAdds', WHERE WHAT IT READS IS OF BULK AT MOST 1048576: true; the input reads as it did. -/
def coderAddsUptoRow : OpenClaim := { program := "ytnjeafdbifcfhaa", sum := "480381e63f28e1027bc65a9d432f6e0e3142ea33d48cafac4f5ec5e51e2247c9", func := "corbel/corbellaw5.CoderAdds", spec := "coderAdds", unfollowed := true, recurses := true, apart := false, narrowed := true }
def CoderAddsUptoSaid : Prop := coderAddsUptoRow.holds Try.pinned (OpenSpec.upto coderAddsSpec)

/-- 'corbellaw5.CoderDeltas', WHERE WHAT IT READS IS OF BULK AT MOST 1048576: true; the input reads as it did. -/
def coderDeltasUptoRow : OpenClaim := { program := "ytnjeafdbifcfhaa", sum := "480381e63f28e1027bc65a9d432f6e0e3142ea33d48cafac4f5ec5e51e2247c9", func := "corbel/corbellaw5.CoderDeltas", spec := "coderDeltas", unfollowed := true, recurses := true, apart := false, narrowed := true }
def CoderDeltasUptoSaid : Prop := coderDeltasUptoRow.holds Try.pinned (OpenSpec.upto coderDeltasSpec)

/-- 'corbellaw5.CoderTells', WHERE WHAT IT READS IS OF BULK AT MOST 1048576: true; the input reads as it did. -/
def coderTellsUptoRow : OpenClaim := { program := "ytnjeafdbifcfhaa", sum := "480381e63f28e1027bc65a9d432f6e0e3142ea33d48cafac4f5ec5e51e2247c9", func := "corbel/corbellaw5.CoderTells", spec := "coderTells", unfollowed := true, recurses := true, apart := false, narrowed := true }
def CoderTellsUptoSaid : Prop := coderTellsUptoRow.holds Try.pinned (OpenSpec.upto coderTellsSpec)

/-- 'corbellaw5.CoderBack', WHERE WHAT IT READS IS OF BULK AT MOST 1048576: true; the input reads as it did. -/
def coderBackUptoRow : OpenClaim := { program := "ytnjeafdbifcfhaa", sum := "480381e63f28e1027bc65a9d432f6e0e3142ea33d48cafac4f5ec5e51e2247c9", func := "corbel/corbellaw5.CoderBack", spec := "coderBack", unfollowed := true, recurses := true, apart := false, narrowed := true }
def CoderBackUptoSaid : Prop := coderBackUptoRow.holds Try.pinned (OpenSpec.upto coderBackSpec)

/-- 'corbellaw5.CoderChecks', WHERE WHAT IT READS IS OF BULK AT MOST 1048576: true; the input reads as it did. -/
def coderChecksUptoRow : OpenClaim := { program := "ytnjeafdbifcfhaa", sum := "480381e63f28e1027bc65a9d432f6e0e3142ea33d48cafac4f5ec5e51e2247c9", func := "corbel/corbellaw5.CoderChecks", spec := "coderChecks", unfollowed := true, recurses := true, apart := false, narrowed := true }
def CoderChecksUptoSaid : Prop := coderChecksUptoRow.holds Try.pinned (OpenSpec.upto coderChecksSpec)

/-- 'corbellaw5.CoderKnown', WHERE WHAT IT READS IS OF BULK AT MOST 1048576: true; the input reads as it did. -/
def coderKnownUptoRow : OpenClaim := { program := "ytnjeafdbifcfhaa", sum := "480381e63f28e1027bc65a9d432f6e0e3142ea33d48cafac4f5ec5e51e2247c9", func := "corbel/corbellaw5.CoderKnown", spec := "coderKnown", unfollowed := true, recurses := true, apart := false, narrowed := true }
def CoderKnownUptoSaid : Prop := coderKnownUptoRow.holds Try.pinned (OpenSpec.upto coderKnownSpec)

end Rows
end Go.Proofs.Ytnjeafdbifcfhaa
