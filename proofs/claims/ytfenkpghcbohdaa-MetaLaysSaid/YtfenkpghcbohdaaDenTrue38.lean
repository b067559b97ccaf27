/- A closed call of the program comes to true, by its forward run. -/
import Derived.Test.YtfenkpghcbohdaaDenRun
import Derived.Test.YtfenkpghcbohdaaFKn38
namespace Go.Proofs.Ytfenkpghcbohdaa.Den
open Go Go.RowKit
set_option maxRecDepth 100000 in
theorem ran38 : toldB (Fwd.corbellaw19_known.f 1000 H.empty) = true := by kernel_rfl
theorem true38 (w : World) : Calls Try.prog 38 #[] w fun e w' => e = .returned (.bool true) ∧ Below w.heap.size w w' :=
  closed_calls (X := seatX []) (seatX_bodied (by kernel_rfl)) (seatX_sound fun k hk => by
  exact absurd hk List.not_mem_nil) (Fwd.corbellaw19_known.told (xok (by decide)) cmp_ok (fun args h => by
    have h1 : cmpX 38 args h = none := by unfold cmpX; split <;> rfl
    unfold seatX orX; rw [h1]; cases args <;> rfl) 1000) ran38 w
end Go.Proofs.Ytfenkpghcbohdaa.Den
