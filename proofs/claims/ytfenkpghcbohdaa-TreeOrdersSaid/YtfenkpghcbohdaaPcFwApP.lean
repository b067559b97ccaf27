/- What an act does to a list of volumes, and what it leaves alone. No program, no condition. -/
import Derived.Test.YtfenkpghcbohdaaPcFwActP
namespace Go.Proofs.Ytfenkpghcbohdaa.Fw
open Go Den Fwd
set_option linter.unusedVariables false
set_option linter.unusedSimpArgs false
end Go.Proofs.Ytfenkpghcbohdaa.Fw
