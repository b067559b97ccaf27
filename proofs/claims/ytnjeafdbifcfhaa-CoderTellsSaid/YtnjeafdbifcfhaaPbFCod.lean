/- Forward runs of functions of the program, printed by a program of this session: each function on plain values and memory, and that the code comes to it. No condition. -/
import Derived.Test.YtnjeafdbifcfhaaDenZ
import Derived.KernelRfl
import Derived.Test.YtnjeafdbifcfhaaPbFF
namespace Go.Proofs.Ytnjeafdbifcfhaa.Fwd
open Go Den
set_option linter.unusedVariables false
/-! ### corbel/corbellaw5.CoderAdds -/
/-! ### corbel/corbellaw5.CoderDeltas -/
/-! ### corbel/corbellaw5.CoderBack -/
/-! ### corbel/corbellaw5.CoderChecks -/
end Go.Proofs.Ytnjeafdbifcfhaa.Fwd
