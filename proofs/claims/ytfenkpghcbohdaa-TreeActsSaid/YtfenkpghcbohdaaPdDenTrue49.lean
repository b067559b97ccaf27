/- A closed call of the program comes to true, by its forward run. -/
import Derived.Test.YtfenkpghcbohdaaDenRun
import Derived.Test.YtfenkpghcbohdaaPdFKn49
namespace Go.Proofs.Ytfenkpghcbohdaa.Den
open Go Go.RowKit
set_option maxRecDepth 100000 in
theorem ran49 : toldB (Fwd.corbellaw18_known.f 2000 H.empty) = true := by kernel_rfl
theorem true49 (w : World) : Calls Try.prog 49 #[] w fun e w' => e = .returned (.bool true) ∧ Below w.heap.size w w' :=
  closed_calls (X := seatX []) (seatX_bodied (by kernel_rfl)) (seatX_sound fun k hk => by
  exact absurd hk List.not_mem_nil) (Fwd.corbellaw18_known.told (xok (by decide)) ins_ok cmp_ok (fun args h => by
    have h0 : insX 49 args h = none := by unfold insX; split <;> rfl
    have h1 : cmpX 49 args h = none := by unfold cmpX; split <;> rfl
    unfold seatX orX; rw [h0]; simp only; rw [h1]; cases args <;> rfl) 2000) ran49 w
end Go.Proofs.Ytfenkpghcbohdaa.Den
