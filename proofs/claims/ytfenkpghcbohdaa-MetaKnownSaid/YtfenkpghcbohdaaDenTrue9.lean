/- A closed call of the program comes to true. -/
import Derived.Test.YtfenkpghcbohdaaDenNamed
import Derived.Test.YtfenkpghcbohdaaDenChunk
import Derived.Test.YtfenkpghcbohdaaDenCmp
import Derived.Test.YtfenkpghcbohdaaDenTrue38
namespace Go.Proofs.Ytfenkpghcbohdaa.Den
open Go Go.RowKit
set_option maxRecDepth 100000 in
theorem ran9 : told (dcall Try.prog chunkC (orX cmpX (trueX [38])) 3000 40 9 [] H.empty) = true := by kernel_rfl
theorem true9 (w : World) : Calls Try.prog 9 #[] w fun e w' => e = .returned (.bool true) ∧ Below w.heap.size w w' := by
  refine told_calls chunkC_law (orX_bodied cmpX_bodied (trueX_bodied (by kernel_rfl))) (orX_sound cmpX_sound (trueX_sound fun k hk => ?_)) ran9 w
  rcases List.mem_cons.1 hk with rfl | hk
  · exact true38
  exact absurd hk List.not_mem_nil
end Go.Proofs.Ytfenkpghcbohdaa.Den
