/- meta's roots, as plain lists. No condition. -/
import Derived.Test.YtfenkpghcbohdaaPcFwRootA
import Derived.KernelRfl
namespace Go.Proofs.Ytfenkpghcbohdaa.Fw
open Go Den Fwd
set_option linter.unusedVariables false
set_option linter.unusedSimpArgs false
structure Rt where
  vr : Int
  cp : Int
  ln : Int
  sm : Int
def Rt.zero : Rt := ⟨0, 0, 0, 0⟩
def rtV (a b c d : Int) : List Value := [.int .i64 a, .int .i64 b, .int .i64 c, .int .i64 d]
def Rt.vs (q : Rt) : List Value := rtV q.vr q.cp q.ln q.sm
def Rt.right (q : Rt) : Bool := decide (1 ≤ q.vr ∧ q.vr ≤ 1099511627776) && (decide (0 ≤ q.cp ∧ q.cp ≤ 1) && (decide (1 ≤ q.ln ∧ q.ln ≤ 1024) && decide (0 ≤ q.sm ∧ q.sm ≤ 4294967290)))
theorem Rt.right_iff (q : Rt) : q.right = true ↔ (1 ≤ q.vr ∧ q.vr ≤ 1099511627776) ∧ (0 ≤ q.cp ∧ q.cp ≤ 1) ∧ (1 ≤ q.ln ∧ q.ln ≤ 1024) ∧ (0 ≤ q.sm ∧ q.sm ≤ 4294967290) := by
  unfold Rt.right
  simp only [Bool.and_eq_true, decide_eq_true_eq]
/-! ### reading -/
end Go.Proofs.Ytfenkpghcbohdaa.Fw
