/- What is known of the law's arguments. -/
import Derived.Test.YtbegaeohggkblaaDenOpen
import Derived.KernelRfl
namespace Go.Proofs.Ytbegaeohggkblaa.Ar.IntentFrees
open Go Den
abbrev A : Type := (List Int) × Int × Unit
def R : H → A → List Value → Prop := RPair (RSl 1 (RInt .i64)) (RPair (RInt .i64) (fun _ (_ : Unit) vs => vs = []))
def Q (x : A) : Prop := (x.1.length * Try.prog.bytesOf 3 ≤ reachBytes ∧ x.1.length ≤ maxLen ∧ ∀ x0 ∈ x.1, (Lit.int .i64 x0).wf = true) ∧ ((Lit.int .i64 x.2.1).wf = true) ∧ True
end Go.Proofs.Ytbegaeohggkblaa.Ar.IntentFrees
