/- The coder: a stripe's parts, its chunks. No condition. -/
import Derived.Test.YtnjeafdbifcfhaaPaFwCod
namespace Go.Proofs.Ytnjeafdbifcfhaa.Fw
open Go Den Fwd GF
set_option linter.unusedVariables false
set_option linter.unusedSimpArgs false
end Go.Proofs.Ytnjeafdbifcfhaa.Fw
