/- What is known of the law's arguments. -/
import Derived.Test.YtnjeafdbifcfhaaDenOpen
import Derived.KernelRfl
namespace Go.Proofs.Ytnjeafdbifcfhaa.Ar.CoderChecks
open Go Den
abbrev A : Type := Int × Int × Int × Int × Unit
def R : H → A → List Value → Prop := RPair (RInt .i64) (RPair (RInt .i64) (RPair (RInt .i64) (RPair (RInt .u8) (fun _ (_ : Unit) vs => vs = []))))
def Q (x : A) : Prop := ((Lit.int .i64 x.1).wf = true) ∧ ((Lit.int .i64 x.2.1).wf = true) ∧ ((Lit.int .i64 x.2.2.1).wf = true) ∧ ((Lit.int .u8 x.2.2.2.1).wf = true) ∧ True
end Go.Proofs.Ytnjeafdbifcfhaa.Ar.CoderChecks
