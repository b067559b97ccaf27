/- What is known of the law's arguments. -/
import Derived.Test.YtlibnmhicnnldaaDenOpen
import Derived.KernelRfl
namespace Go.Proofs.Ytlibnmhicnnldaa.Ar.HandLists
open Go Den
abbrev A : Type := (List (Int × Int × Int × List Int × ByteArray)) × Int × Unit
def R : H → A → List Value → Prop := RPair (RSl 5 (RPair (RInt .i64) (RPair (RInt .i64) (RPair (RInt .i64) (RPair (RSl 1 (RInt .u8)) RStr))))) (RPair (RInt .i64) (fun _ (_ : Unit) vs => vs = []))
def Q (x : A) : Prop := (x.1.length * Try.prog.bytesOf 57 ≤ reachBytes ∧ x.1.length ≤ maxLen ∧ ∀ x0 ∈ x.1, ((Lit.int .i64 x0.1).wf = true) ∧ ((Lit.int .i64 x0.2.1).wf = true) ∧ ((Lit.int .i64 x0.2.2.1).wf = true) ∧ (x0.2.2.2.1.length * Try.prog.bytesOf 5 ≤ reachBytes ∧ x0.2.2.2.1.length ≤ maxLen ∧ ∀ x1 ∈ x0.2.2.2.1, (Lit.int .u8 x1).wf = true) ∧ x0.2.2.2.2.size ≤ 1048576) ∧ ((Lit.int .i64 x.2.1).wf = true) ∧ True
end Go.Proofs.Ytlibnmhicnnldaa.Ar.HandLists
