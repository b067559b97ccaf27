/- What is known of the law's arguments. -/
import Derived.Test.YtnjeafdbifcfhaaDenOpen
import Derived.KernelRfl
namespace Go.Proofs.Ytnjeafdbifcfhaa.Ar.MatrixTells
open Go Den
abbrev A : Type := Int × Int × Int × (List Int) × (List Int) × (List (List Int)) × Unit
def R : H → A → List Value → Prop := RPair (RInt .i64) (RPair (RInt .i64) (RPair (RInt .i64) (RPair (RSl 1 (RInt .i64)) (RPair (RSl 1 (RInt .i64)) (RPair (RSl 1 (RSl 1 (RInt .u8))) (fun _ (_ : Unit) vs => vs = []))))))
def Q (x : A) : Prop := ((Lit.int .i64 x.1).wf = true) ∧ ((Lit.int .i64 x.2.1).wf = true) ∧ ((Lit.int .i64 x.2.2.1).wf = true) ∧ (x.2.2.2.1.length * Try.prog.bytesOf 3 ≤ reachBytes ∧ x.2.2.2.1.length ≤ maxLen ∧ ∀ x0 ∈ x.2.2.2.1, (Lit.int .i64 x0).wf = true) ∧ (x.2.2.2.2.1.length * Try.prog.bytesOf 3 ≤ reachBytes ∧ x.2.2.2.2.1.length ≤ maxLen ∧ ∀ x0 ∈ x.2.2.2.2.1, (Lit.int .i64 x0).wf = true) ∧ (x.2.2.2.2.2.1.length * Try.prog.bytesOf 40 ≤ reachBytes ∧ x.2.2.2.2.2.1.length ≤ maxLen ∧ ∀ x0 ∈ x.2.2.2.2.2.1, x0.length * Try.prog.bytesOf 5 ≤ reachBytes ∧ x0.length ≤ maxLen ∧ ∀ x1 ∈ x0, (Lit.int .u8 x1).wf = true) ∧ True
end Go.Proofs.Ytnjeafdbifcfhaa.Ar.MatrixTells
