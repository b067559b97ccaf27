/- Small words for the pure statements: from some number of rounds on; whole numbers; lists. No condition. -/
import Derived.Test.YtfenkpghcbohdaaWMore
namespace Go.Proofs.Ytfenkpghcbohdaa.Kit
open Go.RowKit Go.Proofs.YtfenkpghcbohdaaW.PrintWords Go.Proofs.YtfenkpghcbohdaaW.PrintLast Go.Proofs.YtfenkpghcbohdaaW.PrintMore
set_option linter.unusedVariables false
set_option linter.unusedSimpArgs false

theorem ev_pos {α : Type} {c : Prop} [Decidable c] {a b : Nat → Option α} {r : α} (h : c) (k : Ev a r) : Ev (fun n => if c then a n else b n) r :=
  Ev.congr (fun n => if_pos h) k
theorem ev_neg {α : Type} {c : Prop} [Decidable c] {a b : Nat → Option α} {r : α} (h : ¬ c) (k : Ev b r) : Ev (fun n => if c then a n else b n) r :=
  Ev.congr (fun n => if_neg h) k
theorem ev_ite {α : Type} {c : Prop} [Decidable c] {a b : Nat → Option α} {r : α} (h : c → Ev a r) (k : ¬ c → Ev b r) : Ev (fun n => if c then a n else b n) r := by
  by_cases q : c
  · exact ev_pos q (h q)
  · exact ev_neg q (k q)
theorem ev_bind1 {α β : Type} {a : Option α} {x : α} {f : Nat → α → Option β} {r : β} (h : a = some x) (k : Ev (fun n => f n x) r) : Ev (fun n => a.bind (f n)) r := by
  subst h; exact k
theorem ev_bind0 {α β : Type} {x : α} {f : Nat → α → Option β} {r : β} (k : Ev (fun n => f n x) r) : Ev (fun n => (some x).bind (f n)) r := k
theorem ev_eq {α : Type} {g : Nat → Option α} {r q : α} (h : Ev g r) (e : r = q) : Ev g q := e ▸ h
theorem ev_some {α : Type} {r q : α} (e : r = q) : Ev (fun _ => some r) q := e ▸ Ev.now r
theorem ev_const {α : Type} {a : Option α} {r : α} (h : a = some r) : Ev (fun _ => a) r := ⟨0, fun _ _ => h⟩

theorem wrap_in {x : Int} (h1 : -9223372036854775808 ≤ x) (h2 : x ≤ 9223372036854775807) : wrap64 x = x := by unfold wrap64; omega
theorem wrap_succ {n : Nat} (h : n < 4611686018427387904) : wrap64 ((n : Int) + 1) = ((n + 1 : Nat) : Int) := by unfold wrap64; omega
theorem wf_i64 {x : Int} (h : (Lit.int .i64 x).wf = true) : -9223372036854775808 ≤ x ∧ x ≤ 9223372036854775807 := by
  simp [Lit.wf] at h
  exact h
theorem rd_nat (xs : List Int) (n : Nat) (h : n < xs.length) : rd xs (n : Int) = xs[n] := by
  unfold rd; rw [Int.toNat_natCast, List.getD_eq_getElem?_getD, List.getElem?_eq_getElem h]; rfl
theorem drop_rd (xs : List Int) (n : Nat) (h : n < xs.length) : xs.drop n = rd xs (n : Int) :: xs.drop (n + 1) := by
  rw [rd_nat xs n h]; exact List.drop_eq_getElem_cons h
theorem take_rd (xs : List Int) (n : Nat) (h : n < xs.length) : xs.take (n + 1) = xs.take n ++ [rd xs (n : Int)] := by
  rw [rd_nat xs n h, List.take_succ_eq_append_getElem h]
theorem rd_mem (xs : List Int) (n : Nat) (h : n < xs.length) : rd xs (n : Int) ∈ xs := by
  rw [rd_nat xs n h]; exact List.getElem_mem h
theorem tmod_nn {a b : Int} (h : 0 ≤ a) : Int.tmod a b = a % b := Int.tmod_eq_emod_of_nonneg h
theorem tdiv_nn {a b : Int} (h : 0 ≤ a) : Int.tdiv a b = a / b := Int.tdiv_eq_ediv_of_nonneg h
theorem ite_dec {c : Prop} [Decidable c] : (if c then true else false) = decide c := by by_cases h : c <;> simp [h]
end Go.Proofs.Ytfenkpghcbohdaa.Kit
