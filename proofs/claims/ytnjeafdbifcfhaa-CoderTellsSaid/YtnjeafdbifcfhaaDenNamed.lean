/- What every closed run of this program wants to know of it. -/
import Derived.Test.YtnjeafdbifcfhaaRows
import Derived.Test.YtnjeafdbifcfhaaDenS
import Derived.KernelRfl
namespace Go.Proofs.Ytnjeafdbifcfhaa.Den
open Go Go.RowKit
def apart (P : Program) : Bool := P.funcs.toList.all fun fn => !(fn.name == "runtime.NumGoroutine")
theorem named : Named Try.prog := by
  have h : apart Try.prog = true := by kernel_rfl
  intro k fn hk
  have hm : fn ∈ Try.prog.funcs.toList := by
    rw [← Array.getElem?_toList] at hk
    exact List.mem_of_getElem? hk
  have := List.all_eq_true.1 h fn hm
  cases hq : (fn.name == "runtime.NumGoroutine") with
  | false => rfl
  | true => rw [hq] at this; cases this
def told : Option (Value × H) → Bool
  | some (.bool true, _) => true
  | _ => false
theorem told_true : ∀ {o : Option (Value × H)}, told o = true → ∃ h, o = some (.bool true, h)
  | some (.bool true, h), _ => ⟨h, rfl⟩
theorem noC_law (P : Program) : ∀ k, noC k = true → ChunkLaw P k := fun k h => by cases h
theorem told_calls {C : FuncId → Bool} (hC : ∀ k, C k = true → ChunkLaw Try.prog k) {X : CallF} (hX : Bodied Try.prog X) (hXS : Sound Try.prog X) {L n : Nat} {f : FuncId} (ran : told (dcall Try.prog C X L n f [] H.empty) = true) (w : World) :
    Calls Try.prog f #[] w fun e w' => e = .returned (.bool true) ∧ Below w.heap.size w w' := by
  obtain ⟨h, e⟩ := told_true ran
  exact run_calls hC (Checked.mixed Try.checked) named hX hXS L n e rfl w
/-- one, and if it does not know the call the other -/
def orX (X Y : CallF) : CallF := fun f args h => match X f args h with
  | some r => some r
  | none => Y f args h
theorem orX_bodied {P : Program} {X Y : CallF} (hX : Bodied P X) (hY : Bodied P Y) : Bodied P (orX X Y) := by
  intro k args h r hx
  unfold orX at hx
  split at hx
  · rename_i u hu; exact hX _ _ _ _ hu
  · exact hY _ _ _ _ hx
theorem orX_sound {P : Program} {X Y : CallF} (hX : Sound P X) (hY : Sound P Y) : Sound P (orX X Y) := by
  intro k args h v h' hx
  unfold orX at hx
  split at hx
  · rename_i u hu; cases hx; exact hX _ _ _ _ _ hu
  · exact hY _ _ _ _ _ hx
end Go.Proofs.Ytnjeafdbifcfhaa.Den
