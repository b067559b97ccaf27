/- Forward runs of functions of the program, printed by a program of this session: each function on plain values and memory, and that the code comes to it. No condition. -/
import Derived.Test.YtfenkpghcbohdaaDenCmp
import Derived.KernelRfl
import Derived.Test.YtfenkpghcbohdaaPdFMeta
import Derived.Test.YtfenkpghcbohdaaPdFRoot
namespace Go.Proofs.Ytfenkpghcbohdaa.Fwd
open Go Den
set_option linter.unusedVariables false
/-! ### corbel/corbellaw19.known -/
end Go.Proofs.Ytfenkpghcbohdaa.Fwd
