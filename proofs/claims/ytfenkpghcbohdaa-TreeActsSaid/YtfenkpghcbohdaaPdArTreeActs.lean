/- What is known of the law's arguments. -/
import Derived.Test.YtfenkpghcbohdaaDenOpen
import Derived.KernelRfl
namespace Go.Proofs.Ytfenkpghcbohdaa.Ar.TreeActs
open Go Den
abbrev A : Type := (List (Int × Int × Int × Int × Int × ByteArray)) × Int × Unit
def R : H → A → List Value → Prop := RPair (RSl 6 (RPair (RInt .i64) (RPair (RInt .i64) (RPair (RInt .i64) (RPair (RInt .i64) (RPair (RInt .i64) RStr)))))) (RPair (RInt .i64) (fun _ (_ : Unit) vs => vs = []))
def Q (x : A) : Prop := (x.1.length * Try.prog.bytesOf 79 ≤ reachBytes ∧ x.1.length ≤ maxLen ∧ ∀ x0 ∈ x.1, ((Lit.int .i64 x0.1).wf = true) ∧ ((Lit.int .i64 x0.2.1).wf = true) ∧ ((Lit.int .i64 x0.2.2.1).wf = true) ∧ ((Lit.int .i64 x0.2.2.2.1).wf = true) ∧ ((Lit.int .i64 x0.2.2.2.2.1).wf = true) ∧ x0.2.2.2.2.2.size ≤ reachBytes) ∧ ((Lit.int .i64 x.2.1).wf = true) ∧ True
end Go.Proofs.Ytfenkpghcbohdaa.Ar.TreeActs
