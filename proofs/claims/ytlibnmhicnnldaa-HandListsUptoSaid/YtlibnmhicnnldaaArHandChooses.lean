/- What is known of the law's arguments. -/
import Derived.Test.YtlibnmhicnnldaaDenOpen
import Derived.KernelRfl
namespace Go.Proofs.Ytlibnmhicnnldaa.Ar.HandChooses
open Go Den
abbrev A : Type := Int × Bool × Int × (List Int) × Int × Unit
def R : H → A → List Value → Prop := RPair (RInt .i64) (RPair RBool (RPair (RInt .i64) (RPair (RSl 1 (RInt .u8)) (RPair (RInt .i64) (fun _ (_ : Unit) vs => vs = [])))))
def Q (x : A) : Prop := ((Lit.int .i64 x.1).wf = true) ∧ (True) ∧ ((Lit.int .i64 x.2.2.1).wf = true) ∧ (x.2.2.2.1.length * Try.prog.bytesOf 5 ≤ reachBytes ∧ x.2.2.2.1.length ≤ maxLen ∧ ∀ x0 ∈ x.2.2.2.1, (Lit.int .u8 x0).wf = true) ∧ ((Lit.int .i64 x.2.2.2.2.1).wf = true) ∧ True
end Go.Proofs.Ytlibnmhicnnldaa.Ar.HandChooses
