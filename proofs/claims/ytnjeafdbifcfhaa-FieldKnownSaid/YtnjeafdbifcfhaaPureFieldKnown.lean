/- The law FieldKnown is walked whole beside this text: nothing pure is left of it. No condition. -/
import Derived.Test.YtnjeafdbifcfhaaPFieldKnownx1
namespace Go.Proofs.Ytnjeafdbifcfhaa.Pure
open Go.Proofs.Ytnjeafdbifcfhaa.PFieldKnown
theorem FieldKnown : corbellaw3_FieldKnown.Pure := trivial
end Go.Proofs.Ytnjeafdbifcfhaa.Pure
