/- A closed call of the program comes to true. -/
import Derived.Test.YtbegaeohggkblaaDenNamed
import Derived.Test.YtbegaeohggkblaaDenTrue25
namespace Go.Proofs.Ytbegaeohggkblaa.Den
open Go Go.RowKit
set_option maxRecDepth 100000 in
theorem ran10 : told (dcall Try.prog (trueX [25]) 3000 40 10 [] H.empty) = true := by kernel_rfl
theorem true10 (w : World) : Calls Try.prog 10 #[] w fun e w' => e = .returned (.bool true) ∧ Below w.heap.size w w' := by
  refine told_calls (trueX_bodied (by kernel_rfl)) (trueX_sound fun k hk => ?_) ran10 w
  rcases List.mem_cons.1 hk with rfl | hk
  · exact true25
  exact absurd hk List.not_mem_nil
end Go.Proofs.Ytbegaeohggkblaa.Den
