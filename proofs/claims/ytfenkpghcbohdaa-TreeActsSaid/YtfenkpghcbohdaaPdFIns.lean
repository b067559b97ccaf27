/- slices.Insert of a list of volumes, as a forward run. No condition. -/
import Derived.Test.YtfenkpghcbohdaaDenIns
import Derived.Test.YtfenkpghcbohdaaDenCmp
import Derived.KernelRfl
namespace Go.Proofs.Ytfenkpghcbohdaa.Fwd
open Go Den
set_option linter.unusedVariables false
/-- the length of a map, as the code reckons it -/
noncomputable def mlenP (h : H) (m : Option Nat) : Option (Value × H) :=
  match (Value.map m) with
  | .map none => some (.int .i64 0, h)
  | x => pv h (mapLenA h x)
noncomputable def slices_Insert_vol.f (k : Nat) (a0 : Sl) (a1 : Int) (a2 : Sl) (h : H) : Option ((Sl) × H) := asS2 (insS a0 a1 a2 h)
theorem slices_Insert_vol.told {C : FuncId → Bool} {X : CallF} (hX : XOk C X) (hK110 : InsOk X 110) (k : Nat) : Den.Told Try.prog C X 110 [.sl, (.int .i64), .sl] [.sl] (fun a h => slices_Insert_vol.f k (a.1) (a.2.1) (a.2.2) h) := by
  intro a h x h' e
  obtain ⟨s, i, v⟩ := a
  have e : asS2 (insS s i v h) = some (x, h') := e
  unfold asS2 at e
  obtain ⟨⟨u, h1⟩, e1, e⟩ := Option.bind_eq_some_iff.1 e
  obtain ⟨y, e2, e⟩ := Option.bind_eq_some_iff.1 e
  cases e
  cases i with
  | negSucc m => cases e1
  | ofNat m =>
    have e1 : insV s.a s.n s.c m (.slice v.a v.n v.c) h = some (u, h1) := e1
    have hu : u = .slice x.a x.n x.c := by
      have e2 : asS (some u) = some x := e2
      unfold asS at e2
      split at e2
      · rename_i a n c q
        cases q
        cases e2
        rfl
      · cases e2
    subst hu
    refine ⟨1, fun n hn L hL => ?_⟩
    obtain ⟨n, rfl⟩ : ∃ m, n = m + 1 := ⟨n - 1, by omega⟩
    rw [dcall_succ, show encL [.sl, (.int .i64), .sl] (s, Int.ofNat m, v) = [.slice s.a s.n s.c, .int .i64 (.ofNat m), .slice v.a v.n v.c] from rfl, hK110 _ _ _ _ _ _ _ e1]
    rfl
end Go.Proofs.Ytfenkpghcbohdaa.Fwd
