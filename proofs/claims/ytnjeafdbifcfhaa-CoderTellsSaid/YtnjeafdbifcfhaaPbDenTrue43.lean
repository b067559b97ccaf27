/- A closed call of the program comes to true, by its forward run. -/
import Derived.Test.YtnjeafdbifcfhaaDenRun
import Derived.Test.YtnjeafdbifcfhaaPbFKn43
namespace Go.Proofs.Ytnjeafdbifcfhaa.Den
open Go Go.RowKit
set_option maxRecDepth 100000 in
theorem ran43 : toldB (Fwd.corbellaw5_known.f 1000 H.empty) = true := by kernel_rfl
theorem true43 (w : World) : Calls Try.prog 43 #[] w fun e w' => e = .returned (.bool true) ∧ Below w.heap.size w w' :=
  closed_calls (X := seatX []) (seatX_bodied (by kernel_rfl)) (seatX_sound fun k hk => by
  exact absurd hk List.not_mem_nil) (Fwd.corbellaw5_known.told (xok (by decide)) (fun args h => by unfold seatX; cases args <;> rfl) 1000) ran43 w
end Go.Proofs.Ytnjeafdbifcfhaa.Den
