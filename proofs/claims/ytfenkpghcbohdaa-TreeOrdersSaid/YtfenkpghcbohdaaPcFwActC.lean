/- A volume deleted, sized, by the program. No condition. -/
import Derived.Test.YtfenkpghcbohdaaPcFwActB
namespace Go.Proofs.Ytfenkpghcbohdaa.Fw
open Go Den Fwd
set_option linter.unusedVariables false
set_option linter.unusedSimpArgs false
/-! ### sized -/
end Go.Proofs.Ytfenkpghcbohdaa.Fw
