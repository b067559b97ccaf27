/- A closed call of the program comes to true, by its forward run. -/
import Derived.Test.YtfenkpghcbohdaaDenRun
import Derived.Test.YtfenkpghcbohdaaFKn17
import Derived.Test.YtfenkpghcbohdaaDenTrue49
namespace Go.Proofs.Ytfenkpghcbohdaa.Den
open Go Go.RowKit
set_option maxRecDepth 100000 in
theorem ran17 : toldB (Fwd.corbellaw18_TreeKnown.f 2000 H.empty) = true := by kernel_rfl
theorem true17 (w : World) : Calls Try.prog 17 #[] w fun e w' => e = .returned (.bool true) ∧ Below w.heap.size w w' :=
  closed_calls (X := seatX [49]) (seatX_bodied (by kernel_rfl)) (seatX_sound fun k hk => by
  rcases List.mem_cons.1 hk with rfl | hk
  · exact true49
  exact absurd hk List.not_mem_nil) (Fwd.corbellaw18_TreeKnown.told (xok (by decide)) (trueX_ok rfl) ins_ok cmp_ok 2000) ran17 w
end Go.Proofs.Ytfenkpghcbohdaa.Den
