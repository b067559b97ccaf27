/- A closed call of the program comes to true, by its forward run. -/
import Derived.Test.YtbegaeohggkblaaDenRun
import Derived.Test.YtbegaeohggkblaaFIK9
import Derived.Test.YtbegaeohggkblaaDenTrue43
namespace Go.Proofs.Ytbegaeohggkblaa.Den
open Go Go.RowKit
set_option maxRecDepth 100000 in
theorem ran13 : toldB (Fwd.corbellaw9_IntentKnown.f 300 H.empty) = true := by kernel_rfl
theorem true13 (w : World) : Calls Try.prog 13 #[] w fun e w' => e = .returned (.bool true) ∧ Below w.heap.size w w' :=
  closed_calls (X := trueX [43]) (trueX_bodied (by kernel_rfl)) (trueX_sound fun k hk => by
  rcases List.mem_cons.1 hk with rfl | hk
  · exact true43
  exact absurd hk List.not_mem_nil) (Fwd.corbellaw9_IntentKnown.told (xok (by decide)) (trueX_ok rfl) 300) ran13 w
end Go.Proofs.Ytbegaeohggkblaa.Den
