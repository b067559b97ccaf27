/- A closed call of the program comes to true. -/
import Derived.Test.YtbegaeohggkblaaDenNamed
namespace Go.Proofs.Ytbegaeohggkblaa.Den
open Go Go.RowKit
set_option maxRecDepth 100000 in
theorem ran25 : told (dcall Try.prog (trueX []) 3000 40 25 [] H.empty) = true := by kernel_rfl
theorem true25 (w : World) : Calls Try.prog 25 #[] w fun e w' => e = .returned (.bool true) ∧ Below w.heap.size w w' := by
  refine told_calls (trueX_bodied (by kernel_rfl)) (trueX_sound fun k hk => ?_) ran25 w
  exact absurd hk List.not_mem_nil
end Go.Proofs.Ytbegaeohggkblaa.Den
