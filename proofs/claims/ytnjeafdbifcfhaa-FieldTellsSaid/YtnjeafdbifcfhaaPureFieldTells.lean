/- The law FieldTells is walked whole beside this text: nothing pure is left of it. No condition. -/
import Derived.Test.YtnjeafdbifcfhaaPFieldTellsx13
namespace Go.Proofs.Ytnjeafdbifcfhaa.Pure
open Go.Proofs.Ytnjeafdbifcfhaa.PFieldTells
theorem FieldTells : corbellaw3_FieldTells.Pure := trivial
end Go.Proofs.Ytnjeafdbifcfhaa.Pure
