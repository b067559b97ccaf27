/- A closed call of the program comes to true, by its forward run. -/
import Derived.Test.YtnjeafdbifcfhaaDenRun
import Derived.Test.YtnjeafdbifcfhaaFCK
import Derived.Test.YtnjeafdbifcfhaaDenTrue43
namespace Go.Proofs.Ytnjeafdbifcfhaa.Den
open Go Go.RowKit
set_option maxRecDepth 100000 in
theorem ran17 : toldB (Fwd.corbellaw5_CoderKnown.f 400 H.empty) = true := by kernel_rfl
theorem true17 (w : World) : Calls Try.prog 17 #[] w fun e w' => e = .returned (.bool true) ∧ Below w.heap.size w w' :=
  closed_calls (X := trueX [43]) (trueX_bodied (by kernel_rfl)) (trueX_sound fun k hk => by
  rcases List.mem_cons.1 hk with rfl | hk
  · exact true43
  exact absurd hk List.not_mem_nil) (Fwd.corbellaw5_CoderKnown.told (xok (by decide)) (trueX_ok rfl) 400) ran17 w
end Go.Proofs.Ytnjeafdbifcfhaa.Den
