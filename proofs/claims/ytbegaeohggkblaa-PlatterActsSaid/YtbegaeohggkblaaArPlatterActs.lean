/- What is known of the law's arguments. -/
import Derived.Test.YtbegaeohggkblaaDenOpen
import Derived.KernelRfl
namespace Go.Proofs.Ytbegaeohggkblaa.Ar.PlatterActs
open Go Den
abbrev A : Type := Int × (List (Int × Int × Int × List Int)) × Unit
def R : H → A → List Value → Prop := RPair (RInt .i64) (RPair (RSl 4 (RPair (RInt .i64) (RPair (RInt .i64) (RPair (RInt .i64) (RSl 1 (RInt .i64)))))) (fun _ (_ : Unit) vs => vs = []))
def Q (x : A) : Prop := ((Lit.int .i64 x.1).wf = true) ∧ (x.2.1.length * Try.prog.bytesOf 48 ≤ reachBytes ∧ x.2.1.length ≤ maxLen ∧ ∀ x0 ∈ x.2.1, ((Lit.int .i64 x0.1).wf = true) ∧ ((Lit.int .i64 x0.2.1).wf = true) ∧ ((Lit.int .i64 x0.2.2.1).wf = true) ∧ x0.2.2.2.length * Try.prog.bytesOf 3 ≤ reachBytes ∧ x0.2.2.2.length ≤ maxLen ∧ ∀ x1 ∈ x0.2.2.2, (Lit.int .i64 x1).wf = true) ∧ True
end Go.Proofs.Ytbegaeohggkblaa.Ar.PlatterActs
