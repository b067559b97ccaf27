/- Strings made of a row of the call's own, behind stores into a box of another type. No condition. -/
import Derived.Test.YthpkhegoamhgeaaWMore
namespace Go.Proofs.Ythpkhegoamhgeaa.Boxes
open Go.RowKit Go.Proofs.YthpkhegoamhgeaaW.PrintWords Go.Proofs.YthpkhegoamhgeaaW.PrintLast Go.Proofs.YthpkhegoamhgeaaW.PrintMore
set_option linter.unusedVariables false

structure Keeps (e base t g : Nat) (ok : Nat → Prop) (v : Value) (xs : List Int) (w : World) : Prop where
  ne : ∀ q, q ∈ e :: (Kd.int .u8).E → q ≠ t
  row : Kd.R (Kd.int .u8) e w base ok v xs
  box : ∃ cells, w.heap[g]? = some (.cells cells t (0, 0))
theorem Keeps.set {e base t g : Nat} {ok : Nat → Prop} {v : Value} {xs : List Int} {w : World} (h : Keeps e base t g ok v xs w) (j : Nat) (u : Value) : Keeps e base t g ok v xs (w.setCell ⟨g, j, none⟩ u) := by
  obtain ⟨cells, hb⟩ := h.box
  exact ⟨h.ne, Kd.R_set h.row hb h.ne j u, ⟨_, blk_set hb j u⟩⟩
theorem Keeps.drewN {e base t g : Nat} {ok : Nat → Prop} {v : Value} {xs : List Int} {w : World} (h : Keeps e base t g ok v xs w) (n : Nat) : Keeps e base t g ok v xs (w.drewN n) := by
  obtain ⟨cells, hb⟩ := h.box
  exact ⟨h.ne, Kd.R_drewN h.row n, ⟨_, blk_drewN hb n⟩⟩
theorem Keeps.string {P : Program} {e base t g : Nat} {ok : Nat → Prop} {v : Value} {xs : List Int} {w : World} {src dst s : TypeId} (h : Keeps e base t g ok v xs w) (hs : P.underlying src = some (.slice s)) (he : P.underlying s = some (.int .u8)) (hd : P.underlying dst = some .string) :
    (convert src dst v).run P w = .ok (.string (strOfNums xs)) w := own_string hs he hd (Kd.own_of_R h.row)
end Go.Proofs.Ythpkhegoamhgeaa.Boxes
