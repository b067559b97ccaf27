/- A closed call of the program comes to true, by its forward run. -/
import Derived.Test.YtfenkpghcbohdaaDenRun
import Derived.Test.YtfenkpghcbohdaaFKn18
namespace Go.Proofs.Ytfenkpghcbohdaa.Den
open Go Go.RowKit
set_option maxRecDepth 100000 in
theorem ran18 : toldB (Fwd.corbellaw17_known.f 1000 H.empty) = true := by kernel_rfl
theorem true18 (w : World) : Calls Try.prog 18 #[] w fun e w' => e = .returned (.bool true) ∧ Below w.heap.size w w' :=
  closed_calls (X := seatX []) (seatX_bodied (by kernel_rfl)) (seatX_sound fun k hk => by
  exact absurd hk List.not_mem_nil) (Fwd.corbellaw17_known.told (xok (by decide)) (fun args h => by
    have h1 : cmpX 18 args h = none := by unfold cmpX; split <;> rfl
    unfold seatX orX; rw [h1]; cases args <;> rfl) 1000) ran18 w
end Go.Proofs.Ytfenkpghcbohdaa.Den
