/- What is known of the law's arguments. -/
import Derived.Test.YtnjeafdbifcfhaaDenOpen
import Derived.KernelRfl
namespace Go.Proofs.Ytnjeafdbifcfhaa.Ar.CoderTells
open Go Den
abbrev A : Type := Int × Int × (List Bool) × Int × Int × Int × Unit
def R : H → A → List Value → Prop := RPair (RInt .i64) (RPair (RInt .i64) (RPair (RSl 1 RBool) (RPair (RInt .i64) (RPair (RInt .i64) (RPair (RInt .i64) (fun _ (_ : Unit) vs => vs = []))))))
def Q (x : A) : Prop := ((Lit.int .i64 x.1).wf = true) ∧ ((Lit.int .i64 x.2.1).wf = true) ∧ (x.2.2.1.length * Try.prog.bytesOf 4 ≤ reachBytes ∧ x.2.2.1.length ≤ maxLen ∧ ∀ x0 ∈ x.2.2.1, True) ∧ ((Lit.int .i64 x.2.2.2.1).wf = true) ∧ ((Lit.int .i64 x.2.2.2.2.1).wf = true) ∧ ((Lit.int .i64 x.2.2.2.2.2.1).wf = true) ∧ True
end Go.Proofs.Ytnjeafdbifcfhaa.Ar.CoderTells
