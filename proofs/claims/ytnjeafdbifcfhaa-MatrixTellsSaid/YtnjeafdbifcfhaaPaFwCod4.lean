/- The coder's deltas. No condition. -/
import Derived.Test.YtnjeafdbifcfhaaPaFwCod3
namespace Go.Proofs.Ytnjeafdbifcfhaa.Fw
open Go Den Fwd GF
set_option linter.unusedVariables false
set_option linter.unusedSimpArgs false
theorem MxR.sub {h : H} {s : Sl} {ps : Parts} (r : MxR h s ps) {lo hi : Nat} (h1 : lo ≤ hi) (h2 : hi ≤ ps.length) {xlo xhi : Option Int} (hlo : bnd xlo 0 = some lo) (hhi : bnd xhi s.n = some hi) :
    ∃ s', asS (subs 1 (.slice s.a s.n s.c) xlo xhi) = some s' ∧ MxR h s' ((ps.drop lo).take (hi - lo)) ∧ ∀ b, SlB s' b → SlB s b := by
  obtain ⟨s', e1, e2, e3, e4⟩ := subs_ok r.sl h1 (by rw [r.n]; exact h2) hlo hhi
  rw [Nat.mul_one, Nat.mul_one, ← List.map_drop, ← List.map_take] at e3
  exact ⟨s', by rw [e1]; rfl, ⟨e3, fun p hp => r.rs p (List.mem_of_mem_drop (List.mem_of_mem_take hp))⟩, e4⟩
/-! ### a chunk turned -/
end Go.Proofs.Ytnjeafdbifcfhaa.Fw
