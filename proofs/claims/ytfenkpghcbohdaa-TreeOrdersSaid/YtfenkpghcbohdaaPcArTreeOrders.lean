/- What is known of the law's arguments. -/
import Derived.Test.YtfenkpghcbohdaaDenOpen
import Derived.KernelRfl
namespace Go.Proofs.Ytfenkpghcbohdaa.Ar.TreeOrders
open Go Den
abbrev A : Type := (List Int) × (List Int) × Unit
def R : H → A → List Value → Prop := RPair (RSl 1 (RInt .i64)) (RPair (RSl 1 (RInt .i64)) (fun _ (_ : Unit) vs => vs = []))
def Q (x : A) : Prop := (x.1.length * Try.prog.bytesOf 3 ≤ reachBytes ∧ x.1.length ≤ maxLen ∧ ∀ x0 ∈ x.1, (Lit.int .i64 x0).wf = true) ∧ (x.2.1.length * Try.prog.bytesOf 3 ≤ reachBytes ∧ x.2.1.length ≤ maxLen ∧ ∀ x0 ∈ x.2.1, (Lit.int .i64 x0).wf = true) ∧ True
end Go.Proofs.Ytfenkpghcbohdaa.Ar.TreeOrders
