/- The law FieldPowers is walked whole beside this text: nothing pure is left of it. No condition. -/
import Derived.Test.YtnjeafdbifcfhaaPFieldPowersx1
namespace Go.Proofs.Ytnjeafdbifcfhaa.Pure
open Go.Proofs.Ytnjeafdbifcfhaa.PFieldPowers
theorem FieldPowers : corbellaw3_FieldPowers.Pure := trivial
end Go.Proofs.Ytnjeafdbifcfhaa.Pure
