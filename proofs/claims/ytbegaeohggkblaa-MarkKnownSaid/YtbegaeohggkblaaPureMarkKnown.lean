/- The pure statement of MarkKnown: what the printed functions answer. No condition beyond its own. -/
import Derived.Test.YtbegaeohggkblaaPMarkKnownx3
import Derived.Test.YtbegaeohggkblaaKit
import Derived.Test.YtbegaeohggkblaaCopy
namespace Go.Proofs.Ytbegaeohggkblaa.Pure
open Go.RowKit Go.Proofs.Ytbegaeohggkblaa.PMarkKnown Go.Proofs.YtbegaeohggkblaaW.PrintWords Go.Proofs.YtbegaeohggkblaaW.PrintLast Go.Proofs.YtbegaeohggkblaaW.PrintMore Go.Proofs.Ytbegaeohggkblaa.Kit
set_option linter.unusedVariables false
set_option linter.unusedSimpArgs false

theorem MarkKnown : corbellaw6_MarkKnown.Pure := ⟨200, by kernel_rfl⟩

end Go.Proofs.Ytbegaeohggkblaa.Pure
