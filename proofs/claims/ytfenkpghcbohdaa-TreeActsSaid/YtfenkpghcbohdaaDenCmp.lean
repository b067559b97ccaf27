/- strings.Compare, walked in this program: it hands back the order of the bytes, and leaves the world as it was. -/
import Derived.Test.YtfenkpghcbohdaaDenZ
import Derived.WalkKit
import Derived.Lib.Strings
import Derived.Lib.Slices
import Derived.Lib.Walk
import Derived.Lib.Bytealg
import Derived.Shelf.Strings.Search1
set_option linter.unusedVariables false
namespace Go.Proofs.Ytfenkpghcbohdaa.Den
open Go Go.RowKit Go.Shelf
set_option maxHeartbeats 1000000 in
set_option maxRecDepth 100000 in
theorem cmp_bytes (a b : ByteArray) (w : World) : Calls Try.prog 119 #[.string a, .string b] w fun e w' => e = .returned (.int .i64 (Lib.compareBytes a.data.toList b.data.toList)) ∧ w' = w := by
  go_enter Try.func119, Try.ntmps119
  go_wp2
  rw [run_callFunc_extern Try.func122 (by kernel_rfl) (by kernel_rfl) (by kernel_rfl) (e := Extern.BytealgCompare.compare) (by kernel_rfl), Lib.run_compareString]
  simp only [Result.andThen]
  rw [Oper.upon_value]
  go_wp2
  go_ret
  exact ⟨rfl, rfl⟩
set_option maxHeartbeats 1000000 in
theorem cmp_strings (a b : ByteArray) (w : World) : Calls Try.prog 114 #[.string a, .string b] w fun e w' => e = .returned (.int .i64 (Lib.compareBytes a.data.toList b.data.toList)) ∧ w' = w := by
  have e213 : ∀ args w, (callFunc 119 args).run Try.prog w = .ok (.enter 119 args) w := enters_of Try.func119 (by kernel_rfl) rfl
  go_enter Try.func114, Try.ntmps114
  go_wp2_with (go_at_fn 119; refine (cmp_bytes _ _ _).mono ?_; rintro e w' ⟨rfl, rfl⟩)
  go_ret
  exact ⟨rfl, rfl⟩
/-- how two strings stand to each other -/
def cmpB (a b : ByteArray) : Int := Lib.compareBytes a.data.toList b.data.toList
def CmpOk (X : CallF) (f : FuncId) : Prop := ∀ (a b : ByteArray) (h : H), X f [.string a, .string b] h = some (.int .i64 (cmpB a b), h)
def cmpW : Wr := fun R args h K => match args with
  | [.string a, .string b] => K (.int .i64 (cmpB a b)) h
  | _ => none
theorem cmpW_told {P : Program} {C : FuncId → Bool} {X : CallF} {f : FuncId} (hK : CmpOk X f) : WrS P C X f cmpW := by
  intro R args h K r e
  unfold cmpW at e
  split at e
  · rename_i a b
    refine ⟨_, h, ⟨1, fun n hn L hL => ?_⟩, e⟩
    obtain ⟨n, rfl⟩ : ∃ m, n = m + 1 := ⟨n - 1, by omega⟩
    rw [dcall_succ, hK a b h]
  · cases e
/-- the calls of strings.Compare -/
def cmpX : CallF := fun f args h => match args with
  | [.string a, .string b] => cond (Nat.beq f 114) (some (.int .i64 (Lib.compareBytes a.data.toList b.data.toList), h)) none
  | _ => none
theorem cmpX_some {k : FuncId} {args : List Value} {h : H} {r : Value × H} (hx : cmpX k args h = some r) : ∃ a b, args = [.string a, .string b] ∧ k = 114 ∧ r = (.int .i64 (Lib.compareBytes a.data.toList b.data.toList), h) := by
  unfold cmpX at hx
  split at hx
  · obtain ⟨h1, h2⟩ := cond_some hx
    cases h2
    exact ⟨_, _, rfl, Nat.eq_of_beq_eq_true h1, rfl⟩
  · cases hx
theorem cmpX_bodied : Bodied Try.prog cmpX := by
  intro k args h r hx
  obtain ⟨a, b, _, rfl, _⟩ := cmpX_some hx
  exact ⟨_, Try.func114, rfl⟩
theorem cmpX_sound : Sound Try.prog cmpX := by
  intro k args h v h' hx σ w args' ha R
  obtain ⟨a, b, rfl, rfl, h2⟩ := cmpX_some hx
  cases h2
  cases ha with
  | cons h1 ha => cases ha with
    | cons h2 ha =>
      cases ha; cases h1; cases h2
      refine (cmp_strings a b w).mono ?_
      rintro e w' ⟨rfl, rfl⟩
      exact ⟨σ, _, rfl, .int _ _, R, Fr.refl R rfl rfl rfl rfl⟩
end Go.Proofs.Ytfenkpghcbohdaa.Den
