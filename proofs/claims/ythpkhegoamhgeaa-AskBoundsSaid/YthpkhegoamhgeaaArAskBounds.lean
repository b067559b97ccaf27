/- What is known of the law's arguments. -/
import Derived.Test.YthpkhegoamhgeaaDenOpen
import Derived.KernelRfl
namespace Go.Proofs.Ythpkhegoamhgeaa.Ar.AskBounds
open Go Den
abbrev A : Type := (Int × Int × Int × Int × Int × Int × List Int) × Int × Int × Int × Unit
def R : H → A → List Value → Prop := RPair (RAgg (RPair (RInt .i64) (RPair (RInt .i64) (RPair (RInt .i64) (RPair (RInt .i64) (RPair (RInt .u64) (RPair (RInt .u64) (RSl 1 (RInt .u8))))))))) (RPair (RInt .i64) (RPair (RInt .u8) (RPair (RInt .i64) (fun _ (_ : Unit) vs => vs = []))))
def Q (x : A) : Prop := (((Lit.int .i64 x.1.1).wf = true) ∧ ((Lit.int .i64 x.1.2.1).wf = true) ∧ ((Lit.int .i64 x.1.2.2.1).wf = true) ∧ ((Lit.int .i64 x.1.2.2.2.1).wf = true) ∧ ((Lit.int .u64 x.1.2.2.2.2.1).wf = true) ∧ ((Lit.int .u64 x.1.2.2.2.2.2.1).wf = true) ∧ x.1.2.2.2.2.2.2.length * Try.prog.bytesOf 5 ≤ reachBytes ∧ x.1.2.2.2.2.2.2.length ≤ maxLen ∧ ∀ x0 ∈ x.1.2.2.2.2.2.2, (Lit.int .u8 x0).wf = true) ∧ ((Lit.int .i64 x.2.1).wf = true) ∧ ((Lit.int .u8 x.2.2.1).wf = true) ∧ ((Lit.int .i64 x.2.2.2.1).wf = true) ∧ True
end Go.Proofs.Ythpkhegoamhgeaa.Ar.AskBounds
