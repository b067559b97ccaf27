/- What is known of the law's arguments. -/
import Derived.Test.YtfenkpghcbohdaaDenOpen
import Derived.KernelRfl
namespace Go.Proofs.Ytfenkpghcbohdaa.Ar.TreeApart
open Go Den
abbrev A : Type := (List (Int × Int × Int × Int × Int × ByteArray)) × Unit
def R : H → A → List Value → Prop := RPair (RSl 6 (RPair (RInt .i64) (RPair (RInt .i64) (RPair (RInt .i64) (RPair (RInt .i64) (RPair (RInt .i64) RStr)))))) (fun _ (_ : Unit) vs => vs = [])
def Q (x : A) : Prop := (x.1.length * Try.prog.bytesOf 79 ≤ reachBytes ∧ x.1.length ≤ maxLen ∧ ∀ x0 ∈ x.1, ((Lit.int .i64 x0.1).wf = true) ∧ ((Lit.int .i64 x0.2.1).wf = true) ∧ ((Lit.int .i64 x0.2.2.1).wf = true) ∧ ((Lit.int .i64 x0.2.2.2.1).wf = true) ∧ ((Lit.int .i64 x0.2.2.2.2.1).wf = true) ∧ x0.2.2.2.2.2.size ≤ reachBytes) ∧ True
end Go.Proofs.Ytfenkpghcbohdaa.Ar.TreeApart
