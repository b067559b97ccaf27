/- Acts on trees: names, sizes, raw acts; the loops of TreeApart. No condition. -/
import Derived.Test.YtfenkpghcbohdaaPbFwActC
import Derived.Test.YtfenkpghcbohdaaPbFwApP
namespace Go.Proofs.Ytfenkpghcbohdaa.Fw
open Go Den Fwd
set_option linter.unusedVariables false
set_option linter.unusedSimpArgs false
/-! ### raw acts -/
def actL (a b c d e : Int) (s : List UInt8) : List Value := [.int .i64 a, .int .i64 b, .int .i64 c, .int .i64 d, .int .i64 e, .string (ba s)]
def ActsR (M : Nat) (h : H) (s : Sl) : Prop := ∀ h', Ch0 h h' → ∀ i, i < s.n → ∃ b o x1 x2 x3 x4 x5 z, z.length ≤ M ∧ ixs 6 s.a s.n (Int.ofNat i) = some (.pointer (some ⟨b, o, none⟩)) ∧ lda 6 h' (some ⟨b, o, none⟩) = some (.agg (actL x1 x2 x3 x4 x5 z).toArray)
theorem ActsR.stay {M : Nat} {h h' : H} {s : Sl} (r : ActsR M h s) (c : Ch0 h h') : ActsR M h' s := fun g cg => r g (c.then cg)
/-! ### TreeApart -/
end Go.Proofs.Ytfenkpghcbohdaa.Fw
