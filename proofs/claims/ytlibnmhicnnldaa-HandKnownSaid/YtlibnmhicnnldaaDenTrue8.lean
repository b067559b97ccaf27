/- A closed call of the program comes to true. -/
import Derived.Test.YtlibnmhicnnldaaDenNamed
import Derived.Test.YtlibnmhicnnldaaDenChunk
namespace Go.Proofs.Ytlibnmhicnnldaa.Den
open Go Go.RowKit
set_option maxRecDepth 100000 in
theorem ran8 : told (dcall Try.prog chunkC (trueX []) 3000 40 8 [] H.empty) = true := by kernel_rfl
theorem true8 (w : World) : Calls Try.prog 8 #[] w fun e w' => e = .returned (.bool true) ∧ Below w.heap.size w w' := by
  refine told_calls chunkC_law (trueX_bodied (by kernel_rfl)) (trueX_sound fun k hk => ?_) ran8 w
  exact absurd hk List.not_mem_nil
end Go.Proofs.Ytlibnmhicnnldaa.Den
