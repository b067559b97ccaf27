/- strings.Compare, walked in this program: it hands back the order of the bytes, and leaves the world as it was. -/
import Derived.Test.YtfenkpghcbohdaaDenNamed
import Derived.WalkKit
import Derived.Lib.Strings
import Derived.Lib.Slices
import Derived.Lib.Walk
import Derived.Lib.Bytealg
import Derived.Shelf.Strings.Search1
set_option linter.unusedVariables false
namespace Go.Proofs.Ytfenkpghcbohdaa.Den
open Go Go.RowKit Go.Shelf
set_option maxHeartbeats 1000000 in
set_option maxRecDepth 100000 in
theorem cmp_bytes (a b : ByteArray) (w : World) : Calls Try.prog 119 #[.string a, .string b] w fun e w' => e = .returned (.int .i64 (Lib.compareBytes a.data.toList b.data.toList)) ∧ w' = w := by
  go_enter Try.func119, Try.ntmps119
  go_wp2
  rw [run_callFunc_extern Try.func122 (by kernel_rfl) (by kernel_rfl) (by kernel_rfl) (e := Extern.BytealgCompare.compare) (by kernel_rfl), Lib.run_compareString]
  simp only [Result.andThen]
  rw [Oper.upon_value]
  go_wp2
  go_ret
  exact ⟨rfl, rfl⟩
set_option maxHeartbeats 1000000 in
theorem cmp_strings (a b : ByteArray) (w : World) : Calls Try.prog 114 #[.string a, .string b] w fun e w' => e = .returned (.int .i64 (Lib.compareBytes a.data.toList b.data.toList)) ∧ w' = w := by
  have e213 : ∀ args w, (callFunc 119 args).run Try.prog w = .ok (.enter 119 args) w := enters_of Try.func119 (by kernel_rfl) rfl
  go_enter Try.func114, Try.ntmps114
  go_wp2_with (go_at_fn 119; refine (cmp_bytes _ _ _).mono ?_; rintro e w' ⟨rfl, rfl⟩)
  go_ret
  exact ⟨rfl, rfl⟩
/-- the calls of strings.Compare -/
def cmpX : CallF := fun f args h => match args with
  | [.string a, .string b] => cond (Nat.beq f 114) (some (.int .i64 (Lib.compareBytes a.data.toList b.data.toList), h)) none
  | _ => none
theorem cmpX_some {k : FuncId} {args : List Value} {h : H} {r : Value × H} (hx : cmpX k args h = some r) : ∃ a b, args = [.string a, .string b] ∧ k = 114 ∧ r = (.int .i64 (Lib.compareBytes a.data.toList b.data.toList), h) := by
  unfold cmpX at hx
  split at hx
  · obtain ⟨h1, h2⟩ := cond_some hx
    cases h2
    exact ⟨_, _, rfl, Nat.eq_of_beq_eq_true h1, rfl⟩
  · cases hx
theorem cmpX_bodied : Bodied Try.prog cmpX := by
  intro k args h r hx
  obtain ⟨a, b, _, rfl, _⟩ := cmpX_some hx
  exact ⟨_, Try.func114, rfl⟩
theorem cmpX_sound : Sound Try.prog cmpX := by
  intro k args h v h' hx σ w args' ha R
  obtain ⟨a, b, rfl, rfl, h2⟩ := cmpX_some hx
  cases h2
  cases ha with
  | cons h1 ha => cases ha with
    | cons h2 ha =>
      cases ha; cases h1; cases h2
      refine (cmp_strings a b w).mono ?_
      rintro e w' ⟨rfl, rfl⟩
      exact ⟨σ, _, rfl, .int _ _, R, Fr.refl R rfl rfl rfl rfl⟩
/-- one, and if it does not know the call the other -/
def orX (X Y : CallF) : CallF := fun f args h => match X f args h with
  | some r => some r
  | none => Y f args h
theorem orX_bodied {P : Program} {X Y : CallF} (hX : Bodied P X) (hY : Bodied P Y) : Bodied P (orX X Y) := by
  intro k args h r hx
  unfold orX at hx
  split at hx
  · rename_i u hu; exact hX _ _ _ _ hu
  · exact hY _ _ _ _ hx
theorem orX_sound {P : Program} {X Y : CallF} (hX : Sound P X) (hY : Sound P Y) : Sound P (orX X Y) := by
  intro k args h v h' hx
  unfold orX at hx
  split at hx
  · rename_i u hu; cases hx; exact hX _ _ _ _ _ hu
  · exact hY _ _ _ _ _ hx
end Go.Proofs.Ytfenkpghcbohdaa.Den
