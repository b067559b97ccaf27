/- FwRootA: declarations of other seats' texts, for this one. No condition. -/
import Derived.Test.YtfenkpghcbohdaaDenHq
import Derived.Test.YtfenkpghcbohdaaPcFRoot
import Derived.Lib.Strings
namespace Go.Proofs.Ytfenkpghcbohdaa.Fw
open Go Den Fwd
set_option linter.unusedVariables false
set_option linter.unusedSimpArgs false
theorem pick_f (k : Nat) (n m : Int) (h : H) (h0 : 0 < m) (h1 : m ≤ 4611686018427387904) : corbelhand_Pick.f k n m h = some (n % m, h) := by
  unfold corbelhand_Pick.f
  have e0 : (m == 0) = false := by simp; omega
  have e := Int.tmod_eq_emod (a := n) (b := m)
  have b1 := Int.emod_nonneg n (show m ≠ 0 by omega)
  have b2 := Int.emod_lt_of_pos n h0
  have hm : (m.natAbs : Int) = m := by omega
  have r0 : intA .rem .i64 n m = some (.int .i64 (n.tmod m)) := by
    show cond (m == 0) none (some (Value.int .i64 (n.tmod m))) = _
    rw [e0]; rfl
  rw [r0]
  simp only [asI, if_true, Option.bind_some]
  by_cases hc : 0 ≤ n ∨ m ∣ n
  · rw [if_pos hc] at e
    have hd : decide (n.tmod m < 0) = false := decide_eq_false (by omega)
    rw [hd, cond_false, Option.bind_some, e]; simp
  · rw [if_neg hc, hm] at e
    have hne : n % m ≠ 0 := fun q => hc (.inr (Int.dvd_of_emod_eq_zero q))
    have hd : decide (n.tmod m < 0) = true := decide_eq_true (by omega)
    rw [hd, cond_true, Option.bind_some, wrap_in (by omega) (by omega), e]
    simp
abbrev Parts := List (Sl × List UInt8)
def PartsR (h : H) (ps : Parts) : Prop := ∀ p ∈ ps, SlR 1 h p.1 (byt p.2)
theorem PartsR.stay {h h' : H} {ps : Parts} (w : WF h) (c : Ch0 h h') (r : PartsR h ps) : PartsR h' ps := fun p hp => (r p hp).stay w c
theorem wrap_u64 {n : Int} (h0 : 0 ≤ n) (h1 : n < 18446744073709551616) : wrapA .u64 n = n := by
  rw [wrapA_eq]
  show n % 18446744073709551616 = n
  exact Int.emod_eq_of_lt h0 h1
theorem Ch0.own {h0 h h' : H} {s : Sl} (c : Ch0 h0 h) (d : Ch (SlB s) h h') (hs : ∀ b, SlB s b → h0.next ≤ b) : Ch0 h0 h' :=
  c.trans d fun x hx f => by have := hs x f; omega
/-- a box, all of it stored -/
theorem Is.whole {h : H} (w : WF h) {b e n : Nat} {l : List Value} (I : Is h b e n l) (hl : l.length = n) (vs : List Value) (hv : vs.length = n) (h1 : vs.all Den.one = true) :
    ∃ h', stv n h (some ⟨b, 0, none⟩) vs = some (undef, h') ∧ Ch (fun c => c = b) h h' ∧ h'.next = h.next ∧ Is h' b e n vs := by
  obtain ⟨h', e1, e2, e3, e4⟩ := stv_ok w I (o := 0) vs (by omega) h1
  rw [hv] at e1
  refine ⟨h', e1, e2, e3, ?_⟩
  have : over l 0 vs = vs := by
    unfold over
    rw [List.take_zero, List.nil_append, List.drop_eq_nil_of_le (by omega), List.append_nil]
  rw [← this]; exact e4
theorem nn (x : Int) (h : 0 ≤ x) : x = Int.ofNat x.toNat := (Int.toNat_of_nonneg h).symm
theorem Ch0.at {h0 h h' : H} {r : Nat} (c : Ch0 h0 h) (d : Ch (fun b => b = r) h h') (hr : h0.next ≤ r) : Ch0 h0 h' := c.trans d fun x hx f => by omega
end Go.Proofs.Ytfenkpghcbohdaa.Fw
