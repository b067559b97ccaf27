/- Forward runs of functions of the program, printed by a program of this session: each function on plain values and memory, and that the code comes to it. No condition. -/
import Derived.Test.YtnjeafdbifcfhaaDenZ
import Derived.KernelRfl
import Derived.Test.YtnjeafdbifcfhaaPbFCod
import Derived.Test.YtnjeafdbifcfhaaPbFF
import Derived.Test.YtnjeafdbifcfhaaPbFKn43
import Derived.Test.YtnjeafdbifcfhaaPbFMat
namespace Go.Proofs.Ytnjeafdbifcfhaa.Fwd
open Go Den
set_option linter.unusedVariables false
/-! ### corbel/corbellaw4.known -/
end Go.Proofs.Ytnjeafdbifcfhaa.Fwd
