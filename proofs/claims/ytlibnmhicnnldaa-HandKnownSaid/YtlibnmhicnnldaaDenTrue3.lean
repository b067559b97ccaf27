/- A closed call of the program comes to true. -/
import Derived.Test.YtlibnmhicnnldaaDenNamed
import Derived.Test.YtlibnmhicnnldaaDenChunk
import Derived.Test.YtlibnmhicnnldaaDenTrue8
namespace Go.Proofs.Ytlibnmhicnnldaa.Den
open Go Go.RowKit
set_option maxRecDepth 100000 in
theorem ran3 : told (dcall Try.prog chunkC (trueX [8]) 3000 40 3 [] H.empty) = true := by kernel_rfl
theorem true3 (w : World) : Calls Try.prog 3 #[] w fun e w' => e = .returned (.bool true) ∧ Below w.heap.size w w' := by
  refine told_calls chunkC_law (trueX_bodied (by kernel_rfl)) (trueX_sound fun k hk => ?_) ran3 w
  rcases List.mem_cons.1 hk with rfl | hk
  · exact true8
  exact absurd hk List.not_mem_nil
end Go.Proofs.Ytlibnmhicnnldaa.Den
