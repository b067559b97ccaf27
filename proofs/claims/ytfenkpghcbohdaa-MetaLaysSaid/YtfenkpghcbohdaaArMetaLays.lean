/- What is known of the law's arguments. -/
import Derived.Test.YtfenkpghcbohdaaDenOpen
import Derived.KernelRfl
namespace Go.Proofs.Ytfenkpghcbohdaa.Ar.MetaLays
open Go Den
abbrev A : Type := (List (Int × Int × Int × Int × Int)) × Int × (List Int) × Int × (List Int) × Int × Unit
def R : H → A → List Value → Prop := RPair (RSl 5 (RPair (RInt .i64) (RPair (RInt .i64) (RPair (RInt .i64) (RPair (RInt .i64) (RInt .i64)))))) (RPair (RInt .i64) (RPair (RSl 1 (RInt .u8)) (RPair (RInt .i64) (RPair (RSl 1 (RInt .i64)) (RPair (RInt .u8) (fun _ (_ : Unit) vs => vs = []))))))
def Q (x : A) : Prop := (x.1.length * Try.prog.bytesOf 113 ≤ reachBytes ∧ x.1.length ≤ maxLen ∧ ∀ x0 ∈ x.1, ((Lit.int .i64 x0.1).wf = true) ∧ ((Lit.int .i64 x0.2.1).wf = true) ∧ ((Lit.int .i64 x0.2.2.1).wf = true) ∧ ((Lit.int .i64 x0.2.2.2.1).wf = true) ∧ (Lit.int .i64 x0.2.2.2.2).wf = true) ∧ ((Lit.int .i64 x.2.1).wf = true) ∧ (x.2.2.1.length * Try.prog.bytesOf 5 ≤ reachBytes ∧ x.2.2.1.length ≤ maxLen ∧ ∀ x0 ∈ x.2.2.1, (Lit.int .u8 x0).wf = true) ∧ ((Lit.int .i64 x.2.2.2.1).wf = true) ∧ (x.2.2.2.2.1.length * Try.prog.bytesOf 3 ≤ reachBytes ∧ x.2.2.2.2.1.length ≤ maxLen ∧ ∀ x0 ∈ x.2.2.2.2.1, (Lit.int .i64 x0).wf = true) ∧ ((Lit.int .u8 x.2.2.2.2.2.1).wf = true) ∧ True
end Go.Proofs.Ytfenkpghcbohdaa.Ar.MetaLays
